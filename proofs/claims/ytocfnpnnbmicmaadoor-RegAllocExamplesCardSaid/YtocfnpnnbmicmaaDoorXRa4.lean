/- Written by gen.py: for each Go function a pure Lean function, and that the Go code comes to what it says. -/
import Derived.Test.YtocfnpnnbmicmaaDoorXRa3
set_option linter.unusedVariables false
set_option maxRecDepth 8000
set_option maxHeartbeats 4000000
namespace Go.Proofs.YtocfnpnnbmicmaaDoor.Tc
open Go Go.RowKit

def regalloc_allocator_reducePressure_l4 (K : Nat) (r1 : (List Int)) (s33 : ((List Int) × Int × Int × (List Block) × (List (List (List Int))) × Int × (List Bool) × (List Location) × (List Spill))) : Nat → (Int × Int) → Option Int
  | 0, _ => none
  | k + 1, s43 => (cnd (decide (s43.2 < ((s33.1).length : Int))) (Option.bind (Option.bind (idx s33.1 s43.2) (fun y51 => (Option.bind (idx r1 y51) (fun y53 => (Option.bind (idx r1 s43.1) (fun y55 => (cnd (decide (y53 ≤ y55)) (some y51) (some s43.1)))))))) (fun s46 => (regalloc_allocator_reducePressure_l4 K r1 s33 k (s46, (w64 (s43.2 + 1)))))) (some s43.1))

def regalloc_allocator_reducePressure_l3 (K : Nat) (r1 : (List Int)) (s8 : (Int × Int × Int × (List Block) × (List (List (List Int))) × Int × (List Bool) × (List Location) × (List Spill))) (s19 : (Int × Int × Int × (List Block) × (List (List (List Int))) × Int × (List Bool) × (List Location) × (List Spill))) : Nat → ((List Int) × Int × Int × (List Block) × (List (List (List Int))) × Int × (List Bool) × (List Location) × (List Spill)) → Option (Int × Int × (List Block) × (List (List (List Int))) × Int × (List Bool) × (List Location) × (List Spill))
  | 0, _ => none
  | k + 1, s33 => (cnd (decide (((s33.1).length : Int) > 5)) (Option.bind (idx s33.1 0) (fun y36 => (Option.bind (regalloc_allocator_reducePressure_l4 K r1 s33 K (y36, 0)) (fun s38 => (Option.bind (regalloc_without K s33.1 s38) (fun r58 => (Option.bind (regalloc_allocator_spill (⟨(⟨s33.2.1, s33.2.2.1, s33.2.2.2.1⟩ : VFunc), s33.2.2.2.2.1, s33.2.2.2.2.2.2.1, (⟨s33.2.2.2.2.2.2.2.1, s33.2.2.2.2.2.2.2.2, s33.2.2.2.2.2.1⟩ : Allocation)⟩ : RegallocAllocator) (⟨s38, 2, s8.1, s19.1, r58⟩ : Spill)) (fun r60 => (Option.bind (regalloc_allocator_unspilled K r60 s33.1) (fun r63 => (regalloc_allocator_reducePressure_l3 K r1 s8 s19 k (r63, r60.c.Params, r60.c.Regs, r60.c.Blocks, r60.at_, r60.a.Slots, r60.spilled, r60.a.Locations, r60.a.Spills)))))))))))) (some (s33.2.1, s33.2.2.1, s33.2.2.2.1, s33.2.2.2.2.1, s33.2.2.2.2.2.1, s33.2.2.2.2.2.2.1, s33.2.2.2.2.2.2.2.1, s33.2.2.2.2.2.2.2.2)))

def regalloc_allocator_reducePressure_l2 (K : Nat) (r1 : (List Int)) (s8 : (Int × Int × Int × (List Block) × (List (List (List Int))) × Int × (List Bool) × (List Location) × (List Spill))) (y11 : Block) : Nat → (Int × Int × Int × (List Block) × (List (List (List Int))) × Int × (List Bool) × (List Location) × (List Spill)) → Option (Int × Int × (List Block) × (List (List (List Int))) × Int × (List Bool) × (List Location) × (List Spill))
  | 0, _ => none
  | k + 1, s19 => (cnd (decide (s19.1 ≤ ((y11.Instrs).length : Int))) (Option.bind (idx s19.2.2.2.2.1 s8.1) (fun y22 => (Option.bind (idx y22 s19.1) (fun y24 => (Option.bind (regalloc_allocator_unspilled K (⟨(⟨s19.2.1, s19.2.2.1, s19.2.2.2.1⟩ : VFunc), s19.2.2.2.2.1, s19.2.2.2.2.2.2.1, (⟨s19.2.2.2.2.2.2.2.1, s19.2.2.2.2.2.2.2.2, s19.2.2.2.2.2.1⟩ : Allocation)⟩ : RegallocAllocator) y24) (fun r26 => (Option.bind (regalloc_allocator_reducePressure_l3 K r1 s8 s19 K (r26, s19.2.1, s19.2.2.1, s19.2.2.2.1, s19.2.2.2.2.1, s19.2.2.2.2.2.1, s19.2.2.2.2.2.2.1, s19.2.2.2.2.2.2.2.1, s19.2.2.2.2.2.2.2.2)) (fun s28 => (regalloc_allocator_reducePressure_l2 K r1 s8 y11 k ((w64 (s19.1 + 1)), s28.1, s28.2.1, s28.2.2.1, s28.2.2.2.1, s28.2.2.2.2.1, s28.2.2.2.2.2.1, s28.2.2.2.2.2.2.1, s28.2.2.2.2.2.2.2)))))))))) (some (s19.2.1, s19.2.2.1, s19.2.2.2.1, s19.2.2.2.2.1, s19.2.2.2.2.2.1, s19.2.2.2.2.2.2.1, s19.2.2.2.2.2.2.2.1, s19.2.2.2.2.2.2.2.2)))

def regalloc_allocator_reducePressure_l1 (K : Nat) (a0 : RegallocAllocator) (r1 : (List Int)) : Nat → (Int × Int × Int × (List Block) × (List (List (List Int))) × Int × (List Bool) × (List Location) × (List Spill)) → Option (Int × Int × (List Block) × (List (List (List Int))) × Int × (List Bool) × (List Location) × (List Spill))
  | 0, _ => none
  | k + 1, s8 => (cnd (decide (s8.1 < ((a0.c.Blocks).length : Int))) (Option.bind (idx a0.c.Blocks s8.1) (fun y11 => (Option.bind (regalloc_allocator_reducePressure_l2 K r1 s8 y11 K (0, s8.2.1, s8.2.2.1, s8.2.2.2.1, s8.2.2.2.2.1, s8.2.2.2.2.2.1, s8.2.2.2.2.2.2.1, s8.2.2.2.2.2.2.2.1, s8.2.2.2.2.2.2.2.2)) (fun s14 => (regalloc_allocator_reducePressure_l1 K a0 r1 k ((w64 (s8.1 + 1)), s14.1, s14.2.1, s14.2.2.1, s14.2.2.2.1, s14.2.2.2.2.1, s14.2.2.2.2.2.1, s14.2.2.2.2.2.2.1, s14.2.2.2.2.2.2.2)))))) (some (s8.2.1, s8.2.2.1, s8.2.2.2.1, s8.2.2.2.2.1, s8.2.2.2.2.2.1, s8.2.2.2.2.2.2.1, s8.2.2.2.2.2.2.2.1, s8.2.2.2.2.2.2.2.2)))

def regalloc_allocator_reducePressure (K : Nat) (a0 : RegallocAllocator) : Option RegallocAllocator :=
  (Option.bind (regalloc_UseCounts K a0.c) (fun r1 => (Option.bind (regalloc_allocator_reducePressure_l1 K a0 r1 K (0, a0.c.Params, a0.c.Regs, a0.c.Blocks, a0.at_, a0.a.Slots, a0.spilled, a0.a.Locations, a0.a.Spills)) (fun s3 => (some (⟨(⟨s3.1, s3.2.1, s3.2.2.1⟩ : VFunc), s3.2.2.2.1, s3.2.2.2.2.2.1, (⟨s3.2.2.2.2.2.2.1, s3.2.2.2.2.2.2.2, s3.2.2.2.2.1⟩ : Allocation)⟩ : RegallocAllocator))))))

theorem c_regalloc_allocator_reducePressure (K : Nat) (a0 : RegallocAllocator) (g0 : Nat) (v0_4 : Value) (v0_5 : Value) (v0_6 : Value) (r : RegallocAllocator) (h : regalloc_allocator_reducePressure K a0 = some r) : CallOk Tryd.prog glob 93 [(pAt g0 0)] [Item.blk g0 135 [(tI a0.c.Params), (tI a0.c.Regs), (tL 5 Block.ty a0.c.Blocks), (tL 1 ls_SSI a0.at_), (Ty.own v0_4), (Ty.own v0_5), (Ty.own v0_6), (tI a0.a.Slots)], rowL v0_4 4 1 lB a0.spilled, rowL v0_5 72 2 Location.ty a0.a.Locations, rowL v0_6 76 5 Spill.ty a0.a.Spills] Value (fun x : Value => ((Ty.tup []), [Item.blk g0 135 [(tI r.c.Params), (tI r.c.Regs), (tL 5 Block.ty r.c.Blocks), (tL 1 ls_SSI r.at_), (Ty.own v0_4), (Ty.own v0_5), (Ty.own x), (tI r.a.Slots)], rowL v0_4 4 1 lB r.spilled, rowL v0_5 72 2 Location.ty r.a.Locations, rowL x 76 5 Spill.ty r.a.Spills])) := by
  refine call_of_code Tryd.func93 rfl Tryd.ntmps93 rfl (fun L w => ?_)
  change OkC _ _ _ [(0, (pAt g0 0))] (Item.blk g0 135 [(tI a0.c.Params), (tI a0.c.Regs), (tL 5 Block.ty a0.c.Blocks), (tL 1 ls_SSI a0.at_), (Ty.own v0_4), (Ty.own v0_5), (Ty.own v0_6), (tI a0.a.Slots)] :: rowL v0_4 4 1 lB a0.spilled :: rowL v0_5 72 2 Location.ty a0.a.Locations :: rowL v0_6 76 5 Spill.ty a0.a.Spills :: L)
  unfold regalloc_allocator_reducePressure at h
  refine okC_seq ?_
  refine okC_region ?_
  refine okL_step 10 (pAt g0 0) rfl rfl (does_move rfl) ?_
  refine okL_step 11 (pAt g0 0) rfl rfl (does_nilCheck rfl) ?_
  refine okL_step 12 (pAt g0 0) rfl rfl (does_fieldAddrP 0 Tryd.underlying135 rfl Tryd.sizeOf27 rfl rfl) ?_
  refine okL_step 13 (Ty.agg [(tI a0.c.Params), (tI a0.c.Regs), (tL 5 Block.ty a0.c.Blocks)]) rfl rfl (does_loadBA [(tI a0.c.Params), (tI a0.c.Regs), (tL 5 Block.ty a0.c.Blocks)] Tryd.isAgg27 Tryd.sizeOf27 rfl 0 rfl rfl rfl) ?_
  obtain ⟨r1, hc2, h⟩ := bs h
  refine okL_step 14 (tL 1 lI r1) rfl rfl (does_call0 (c_regalloc_UseCounts K a0.c r1 hc2) rfl Tryd.call52 rfl) ?_
  refine okL_step 2 (tL 1 lI r1) rfl rfl (does_assign rfl) ?_
  refine okL_nil ?_
  refine okX_next ?_
  refine okC_seq ?_
  refine okC_region ?_
  refine okL_step 15 (pAt g0 0) rfl rfl (does_move rfl) ?_
  refine okL_step 16 (pAt g0 0) rfl rfl (does_nilCheck rfl) ?_
  refine okL_step 17 (pAt g0 0) rfl rfl (does_fieldAddrP 0 Tryd.underlying135 rfl Tryd.sizeOf27 rfl rfl) ?_
  refine okL_step 18 (pAt g0 2) rfl rfl (does_fieldAddrP 2 Tryd.underlying27 rfl Tryd.sizeOf25 rfl rfl) ?_
  refine okL_step 19 (tL 5 Block.ty a0.c.Blocks) rfl rfl (does_loadB1 Tryd.isAgg25 rfl 0 rfl rfl) ?_
  refine okL_step 20 (tI ((a0.c.Blocks).length : Int)) rfl rfl (does_len (sz := 5) (f := Block.ty) (l := a0.c.Blocks) rfl Tryd.underlying25 rfl) ?_
  refine okL_step 21 (tI 0) rfl rfl (does_move rfl) ?_
  refine okL_nil ?_
  refine okX_next ?_
  obtain ⟨z5, h7, hz6⟩ := bs h
  refine okC_meetE (X := ((Int × Int × (List Block) × (List (List (List Int))) × Int × (List Bool) × (List Location) × (List Spill)) × Value)) (fun x => z5 = x.1) (fun x : ((Int × Int × (List Block) × (List (List (List Int))) × Int × (List Bool) × (List Location) × (List Spill)) × Value) => []) (fun x : ((Int × Int × (List Block) × (List (List (List Int))) × Int × (List Bool) × (List Location) × (List Spill)) × Value) => Item.blk g0 135 [(tI x.1.1), (tI x.1.2.1), (tL 5 Block.ty x.1.2.2.1), (tL 1 ls_SSI x.1.2.2.2.1), (Ty.own v0_4), (Ty.own v0_5), (Ty.own x.2), (tI x.1.2.2.2.2.1)] :: rowL v0_4 4 1 lB x.1.2.2.2.2.2.1 :: rowL v0_5 72 2 Location.ty x.1.2.2.2.2.2.2.1 :: rowL x.2 76 5 Spill.ty x.1.2.2.2.2.2.2.2 :: L) ?_ ?_
  · refine okC_block ?_
    refine okC_loop (X := ((Int × Int × Int × (List Block) × (List (List (List Int))) × Int × (List Bool) × (List Location) × (List Spill)) × Value)) (fun k x => regalloc_allocator_reducePressure_l1 K a0 r1 k x.1 = some z5) (fun x : ((Int × Int × Int × (List Block) × (List (List (List Int))) × Int × (List Bool) × (List Location) × (List Spill)) × Value) => [(0, (pAt g0 0)), (2, (tL 1 lI r1)), (19, (tL 5 Block.ty a0.c.Blocks)), (20, (tI ((a0.c.Blocks).length : Int))), (21, (tI x.1.1))]) (fun x : ((Int × Int × Int × (List Block) × (List (List (List Int))) × Int × (List Bool) × (List Location) × (List Spill)) × Value) => Item.blk g0 135 [(tI x.1.2.1), (tI x.1.2.2.1), (tL 5 Block.ty x.1.2.2.2.1), (tL 1 ls_SSI x.1.2.2.2.2.1), (Ty.own v0_4), (Ty.own v0_5), (Ty.own x.2), (tI x.1.2.2.2.2.2.1)] :: rowL v0_4 4 1 lB x.1.2.2.2.2.2.2.1 :: rowL v0_5 72 2 Location.ty x.1.2.2.2.2.2.2.2.1 :: rowL x.2 76 5 Spill.ty x.1.2.2.2.2.2.2.2.2 :: L) K ((0, a0.c.Params, a0.c.Regs, a0.c.Blocks, a0.at_, a0.a.Slots, a0.spilled, a0.a.Locations, a0.a.Spills), v0_6) h7 (cc rfl (cc rfl (cc rfl (cc rfl (cc rfl cn))))) rfl (fun k x hI => ?_)
    obtain ⟨s8, w9⟩ := x
    change OkC _ _ _ [(0, (pAt g0 0)), (2, (tL 1 lI r1)), (19, (tL 5 Block.ty a0.c.Blocks)), (20, (tI ((a0.c.Blocks).length : Int))), (21, (tI s8.1))] (Item.blk g0 135 [(tI s8.2.1), (tI s8.2.2.1), (tL 5 Block.ty s8.2.2.2.1), (tL 1 ls_SSI s8.2.2.2.2.1), (Ty.own v0_4), (Ty.own v0_5), (Ty.own w9), (tI s8.2.2.2.2.2.1)] :: rowL v0_4 4 1 lB s8.2.2.2.2.2.2.1 :: rowL v0_5 72 2 Location.ty s8.2.2.2.2.2.2.2.1 :: rowL w9 76 5 Spill.ty s8.2.2.2.2.2.2.2.2 :: L)
    cases k with
    | zero => exact (nz hI).elim
    | succ k =>
      have h : regalloc_allocator_reducePressure_l1 K a0 r1 (k + 1) s8 = some z5 := hI
      rw [regalloc_allocator_reducePressure_l1.eq_2] at h
      refine okC_seq ?_
      refine okC_region ?_
      refine okL_step 22 (tB (decide (s8.1 < ((a0.c.Blocks).length : Int)))) rfl rfl (does_lss rfl rfl) ?_
      refine okL_nil ?_
      refine okX_next ?_
      refine okC_seq ?_
      refine okC_cond (b := (decide (s8.1 < ((a0.c.Blocks).length : Int)))) rfl (fun hb10 => ?_) (fun hb10 => ?_)
      · replace h := ct hb10 h
        refine okC_skip ?_
        refine okX_next ?_
        refine okC_seq ?_
        refine okC_block ?_
        refine okC_seq ?_
        refine okC_region ?_
        refine okL_step 23 (tI s8.1) rfl rfl (does_move rfl) ?_
        obtain ⟨y11, hi12, h⟩ := bs h
        refine okL_step 24 (Ty.ptr [(tL 6 VInstr.ty y11.Instrs), (tI y11.End), (tI y11.Reg), (tI y11.Target), (tI y11.Else)]) rfl rfl (does_index (sz := 5) (f := Block.ty) (l := a0.c.Blocks) (n := s8.1) y11 Tryd.underlying25 Tryd.sizeOf43 hi12 rfl rfl) ?_
        refine okL_step 25 (Ty.agg [(tL 6 VInstr.ty y11.Instrs), (tI y11.End), (tI y11.Reg), (tI y11.Target), (tI y11.Else)]) rfl rfl (does_loadA [(tL 6 VInstr.ty y11.Instrs), (tI y11.End), (tI y11.Reg), (tI y11.Target), (tI y11.Else)] Tryd.isAgg43 Tryd.sizeOf43 rfl rfl rfl) ?_
        refine okL_stepO 4 rfl rfl (doesO_alloc [(Ty.val (.slice none 0 0)), (tI 0), (tI 0), (tI 0), (tI 0)] Tryd.zeroValue43 (part_of (sub_agg [(.slice none 0 0), (.int .i64 0), (.int .i64 0), (.int .i64 0), (.int .i64 0)] rfl) (part_agg _)) (fun g13 => ?_))
        refine okL_step 3 (tI s8.1) rfl rfl (does_assign rfl) ?_
        refine okL_stepU rfl (doesO_storeB (ps := [(tL 6 VInstr.ty y11.Instrs), (tI y11.End), (tI y11.Reg), (tI y11.Target), (tI y11.Else)]) 0 [(tL 6 VInstr.ty y11.Instrs), (tI y11.End), (tI y11.Reg), (tI y11.Target), (tI y11.Else)] (Item.blk g13 43 [(tL 6 VInstr.ty y11.Instrs), (tI y11.End), (tI y11.Reg), (tI y11.Target), (tI y11.Else)] :: Item.blk g0 135 [(tI s8.2.1), (tI s8.2.2.1), (tL 5 Block.ty s8.2.2.2.1), (tL 1 ls_SSI s8.2.2.2.2.1), (Ty.own v0_4), (Ty.own v0_5), (Ty.own w9), (tI s8.2.2.2.2.2.1)] :: rowL v0_4 4 1 lB s8.2.2.2.2.2.2.1 :: rowL v0_5 72 2 Location.ty s8.2.2.2.2.2.2.2.1 :: rowL w9 76 5 Spill.ty s8.2.2.2.2.2.2.2.2 :: L) rfl rfl (part_agg _) Tryd.sizeOf43 rfl rfl rfl rfl ?_)
        refine okL_nil ?_
        refine okX_next ?_
        refine okC_seq ?_
        refine okC_region ?_
        refine okL_step 5 (tI 0) rfl rfl (does_assign rfl) ?_
        refine okL_nil ?_
        refine okX_next ?_
        obtain ⟨z16, h18, hz17⟩ := bs h
        refine okC_meetE (X := ((Int × Int × (List Block) × (List (List (List Int))) × Int × (List Bool) × (List Location) × (List Spill)) × Value)) (fun x => z16 = x.1) (fun x : ((Int × Int × (List Block) × (List (List (List Int))) × Int × (List Bool) × (List Location) × (List Spill)) × Value) => [(0, (pAt g0 0)), (2, (tL 1 lI r1)), (19, (tL 5 Block.ty a0.c.Blocks)), (20, (tI ((a0.c.Blocks).length : Int))), (21, (tI s8.1))]) (fun x : ((Int × Int × (List Block) × (List (List (List Int))) × Int × (List Bool) × (List Location) × (List Spill)) × Value) => Item.blk g13 43 [(tL 6 VInstr.ty y11.Instrs), (tI y11.End), (tI y11.Reg), (tI y11.Target), (tI y11.Else)] :: Item.blk g0 135 [(tI x.1.1), (tI x.1.2.1), (tL 5 Block.ty x.1.2.2.1), (tL 1 ls_SSI x.1.2.2.2.1), (Ty.own v0_4), (Ty.own v0_5), (Ty.own x.2), (tI x.1.2.2.2.2.1)] :: rowL v0_4 4 1 lB x.1.2.2.2.2.2.1 :: rowL v0_5 72 2 Location.ty x.1.2.2.2.2.2.2.1 :: rowL x.2 76 5 Spill.ty x.1.2.2.2.2.2.2.2 :: L) ?_ ?_
        · refine okC_block ?_
          refine okC_loop (X := ((Int × Int × Int × (List Block) × (List (List (List Int))) × Int × (List Bool) × (List Location) × (List Spill)) × Value)) (fun k x => regalloc_allocator_reducePressure_l2 K r1 s8 y11 k x.1 = some z16) (fun x : ((Int × Int × Int × (List Block) × (List (List (List Int))) × Int × (List Bool) × (List Location) × (List Spill)) × Value) => [(0, (pAt g0 0)), (2, (tL 1 lI r1)), (3, (tI s8.1)), (4, (pAt g13 0)), (5, (tI x.1.1)), (19, (tL 5 Block.ty a0.c.Blocks)), (20, (tI ((a0.c.Blocks).length : Int))), (21, (tI s8.1))]) (fun x : ((Int × Int × Int × (List Block) × (List (List (List Int))) × Int × (List Bool) × (List Location) × (List Spill)) × Value) => Item.blk g13 43 [(tL 6 VInstr.ty y11.Instrs), (tI y11.End), (tI y11.Reg), (tI y11.Target), (tI y11.Else)] :: Item.blk g0 135 [(tI x.1.2.1), (tI x.1.2.2.1), (tL 5 Block.ty x.1.2.2.2.1), (tL 1 ls_SSI x.1.2.2.2.2.1), (Ty.own v0_4), (Ty.own v0_5), (Ty.own x.2), (tI x.1.2.2.2.2.2.1)] :: rowL v0_4 4 1 lB x.1.2.2.2.2.2.2.1 :: rowL v0_5 72 2 Location.ty x.1.2.2.2.2.2.2.2.1 :: rowL x.2 76 5 Spill.ty x.1.2.2.2.2.2.2.2.2 :: L) K ((0, s8.2.1, s8.2.2.1, s8.2.2.2.1, s8.2.2.2.2.1, s8.2.2.2.2.2.1, s8.2.2.2.2.2.2.1, s8.2.2.2.2.2.2.2.1, s8.2.2.2.2.2.2.2.2), w9) h18 (cc rfl (cc rfl (cc rfl (cc rfl (cc rfl (cc rfl (cc rfl (cc rfl cn)))))))) rfl (fun k x hI => ?_)
          obtain ⟨s19, w20⟩ := x
          change OkC _ _ _ [(0, (pAt g0 0)), (2, (tL 1 lI r1)), (3, (tI s8.1)), (4, (pAt g13 0)), (5, (tI s19.1)), (19, (tL 5 Block.ty a0.c.Blocks)), (20, (tI ((a0.c.Blocks).length : Int))), (21, (tI s8.1))] (Item.blk g13 43 [(tL 6 VInstr.ty y11.Instrs), (tI y11.End), (tI y11.Reg), (tI y11.Target), (tI y11.Else)] :: Item.blk g0 135 [(tI s19.2.1), (tI s19.2.2.1), (tL 5 Block.ty s19.2.2.2.1), (tL 1 ls_SSI s19.2.2.2.2.1), (Ty.own v0_4), (Ty.own v0_5), (Ty.own w20), (tI s19.2.2.2.2.2.1)] :: rowL v0_4 4 1 lB s19.2.2.2.2.2.2.1 :: rowL v0_5 72 2 Location.ty s19.2.2.2.2.2.2.2.1 :: rowL w20 76 5 Spill.ty s19.2.2.2.2.2.2.2.2 :: L)
          cases k with
          | zero => exact (nz hI).elim
          | succ k =>
            have h : regalloc_allocator_reducePressure_l2 K r1 s8 y11 (k + 1) s19 = some z16 := hI
            rw [regalloc_allocator_reducePressure_l2.eq_2] at h
            refine okC_seq ?_
            refine okC_seq ?_
            refine okC_region ?_
            refine okL_step 26 (tI s19.1) rfl rfl (does_move rfl) ?_
            refine okL_step 27 (pAt g13 0) rfl rfl (does_fieldAddrP 0 Tryd.underlying43 rfl Tryd.sizeOf41 rfl rfl) ?_
            refine okL_step 28 (tL 6 VInstr.ty y11.Instrs) rfl rfl (does_loadB1 Tryd.isAgg41 rfl 0 rfl rfl) ?_
            refine okL_step 29 (tI ((y11.Instrs).length : Int)) rfl rfl (does_len (sz := 6) (f := VInstr.ty) (l := y11.Instrs) rfl Tryd.underlying41 rfl) ?_
            refine okL_step 30 (tB (decide (s19.1 ≤ ((y11.Instrs).length : Int)))) rfl rfl (does_leq rfl rfl) ?_
            refine okL_nil ?_
            refine okX_next ?_
            refine okC_cond (b := (decide (s19.1 ≤ ((y11.Instrs).length : Int)))) rfl (fun hb21 => ?_) (fun hb21 => ?_)
            · replace h := ct hb21 h
              refine okC_skip ?_
              refine okX_next ?_
              refine okC_seq ?_
              refine okC_block ?_
              refine okC_seq ?_
              refine okC_region ?_
              refine okL_step 33 (pAt g0 0) rfl rfl (does_move rfl) ?_
              refine okL_step 34 (pAt g0 0) rfl rfl (does_move rfl) ?_
              refine okL_step 35 (pAt g0 0) rfl rfl (does_nilCheck rfl) ?_
              refine okL_step 36 (pAt g0 3) rfl rfl (does_fieldAddrP 3 Tryd.underlying135 rfl Tryd.sizeOf132 rfl rfl) ?_
              refine okL_step 37 (tL 1 ls_SSI s19.2.2.2.2.1) rfl rfl (does_loadB1 Tryd.isAgg132 rfl 1 rfl rfl) ?_
              refine okL_step 38 (tI s8.1) rfl rfl (does_move rfl) ?_
              obtain ⟨y22, hi23, h⟩ := bs h
              refine okL_step 39 (Ty.ptr [(tL 1 lIs y22)]) rfl rfl (does_index (sz := 1) (f := ls_SSI) (l := s19.2.2.2.2.1) (n := s8.1) y22 Tryd.underlying132 Tryd.sizeOf22 hi23 rfl rfl) ?_
              refine okL_step 40 (tL 1 lIs y22) rfl rfl (does_load1 Tryd.isAgg22 rfl) ?_
              refine okL_step 41 (tI s19.1) rfl rfl (does_move rfl) ?_
              obtain ⟨y24, hi25, h⟩ := bs h
              refine okL_step 42 (Ty.ptr [(tL 1 lI y24)]) rfl rfl (does_index (sz := 1) (f := lIs) (l := y22) (n := s19.1) y24 Tryd.underlying22 Tryd.sizeOf31 hi25 rfl rfl) ?_
              refine okL_step 43 (tL 1 lI y24) rfl rfl (does_load1 Tryd.isAgg31 rfl) ?_
              obtain ⟨r26, hc27, h⟩ := bs h
              refine okL_stepO 44 rfl rfl (doesO_call0 (Item.blk g13 43 [(tL 6 VInstr.ty y11.Instrs), (tI y11.End), (tI y11.Reg), (tI y11.Target), (tI y11.Else)] :: L) (c_regalloc_allocator_unspilled K (⟨(⟨s19.2.1, s19.2.2.1, s19.2.2.2.1⟩ : VFunc), s19.2.2.2.2.1, s19.2.2.2.2.2.2.1, (⟨s19.2.2.2.2.2.2.2.1, s19.2.2.2.2.2.2.2.2, s19.2.2.2.2.2.1⟩ : Allocation)⟩ : RegallocAllocator) y24 g0 v0_4 v0_5 w20 r26 hc27) rfl Tryd.call118 rfl (pm 1 rfl (pm 1 rfl (pm 1 rfl (pm 1 rfl (pr _))))) (fun _ => ?_))
              refine okL_step 6 (tL 1 lI r26) rfl rfl (does_assign rfl) ?_
              refine okL_nil ?_
              refine okX_next ?_
              obtain ⟨z30, h32, hz31⟩ := bs h
              refine okC_meetE (X := ((Int × Int × (List Block) × (List (List (List Int))) × Int × (List Bool) × (List Location) × (List Spill)) × Value)) (fun x => z30 = x.1) (fun x : ((Int × Int × (List Block) × (List (List (List Int))) × Int × (List Bool) × (List Location) × (List Spill)) × Value) => [(0, (pAt g0 0)), (2, (tL 1 lI r1)), (3, (tI s8.1)), (4, (pAt g13 0)), (5, (tI s19.1)), (19, (tL 5 Block.ty a0.c.Blocks)), (20, (tI ((a0.c.Blocks).length : Int))), (21, (tI s8.1))]) (fun x : ((Int × Int × (List Block) × (List (List (List Int))) × Int × (List Bool) × (List Location) × (List Spill)) × Value) => Item.blk g0 135 [(tI x.1.1), (tI x.1.2.1), (tL 5 Block.ty x.1.2.2.1), (tL 1 ls_SSI x.1.2.2.2.1), (Ty.own v0_4), (Ty.own v0_5), (Ty.own x.2), (tI x.1.2.2.2.2.1)] :: rowL v0_4 4 1 lB x.1.2.2.2.2.2.1 :: rowL v0_5 72 2 Location.ty x.1.2.2.2.2.2.2.1 :: rowL x.2 76 5 Spill.ty x.1.2.2.2.2.2.2.2 :: Item.blk g13 43 [(tL 6 VInstr.ty y11.Instrs), (tI y11.End), (tI y11.Reg), (tI y11.Target), (tI y11.Else)] :: L) ?_ ?_
              · refine okC_block ?_
                refine okC_loop (X := (((List Int) × Int × Int × (List Block) × (List (List (List Int))) × Int × (List Bool) × (List Location) × (List Spill)) × Value)) (fun k x => regalloc_allocator_reducePressure_l3 K r1 s8 s19 k x.1 = some z30) (fun x : (((List Int) × Int × Int × (List Block) × (List (List (List Int))) × Int × (List Bool) × (List Location) × (List Spill)) × Value) => [(0, (pAt g0 0)), (2, (tL 1 lI r1)), (3, (tI s8.1)), (4, (pAt g13 0)), (5, (tI s19.1)), (6, (tL 1 lI x.1.1)), (19, (tL 5 Block.ty a0.c.Blocks)), (20, (tI ((a0.c.Blocks).length : Int))), (21, (tI s8.1))]) (fun x : (((List Int) × Int × Int × (List Block) × (List (List (List Int))) × Int × (List Bool) × (List Location) × (List Spill)) × Value) => Item.blk g0 135 [(tI x.1.2.1), (tI x.1.2.2.1), (tL 5 Block.ty x.1.2.2.2.1), (tL 1 ls_SSI x.1.2.2.2.2.1), (Ty.own v0_4), (Ty.own v0_5), (Ty.own x.2), (tI x.1.2.2.2.2.2.1)] :: rowL v0_4 4 1 lB x.1.2.2.2.2.2.2.1 :: rowL v0_5 72 2 Location.ty x.1.2.2.2.2.2.2.2.1 :: rowL x.2 76 5 Spill.ty x.1.2.2.2.2.2.2.2.2 :: Item.blk g13 43 [(tL 6 VInstr.ty y11.Instrs), (tI y11.End), (tI y11.Reg), (tI y11.Target), (tI y11.Else)] :: L) K ((r26, s19.2.1, s19.2.2.1, s19.2.2.2.1, s19.2.2.2.2.1, s19.2.2.2.2.2.1, s19.2.2.2.2.2.2.1, s19.2.2.2.2.2.2.2.1, s19.2.2.2.2.2.2.2.2), w20) h32 (cc rfl (cc rfl (cc rfl (cc rfl (cc rfl (cc rfl (cc rfl (cc rfl (cc rfl cn))))))))) rfl (fun k x hI => ?_)
                obtain ⟨s33, w34⟩ := x
                change OkC _ _ _ [(0, (pAt g0 0)), (2, (tL 1 lI r1)), (3, (tI s8.1)), (4, (pAt g13 0)), (5, (tI s19.1)), (6, (tL 1 lI s33.1)), (19, (tL 5 Block.ty a0.c.Blocks)), (20, (tI ((a0.c.Blocks).length : Int))), (21, (tI s8.1))] (Item.blk g0 135 [(tI s33.2.1), (tI s33.2.2.1), (tL 5 Block.ty s33.2.2.2.1), (tL 1 ls_SSI s33.2.2.2.2.1), (Ty.own v0_4), (Ty.own v0_5), (Ty.own w34), (tI s33.2.2.2.2.2.1)] :: rowL v0_4 4 1 lB s33.2.2.2.2.2.2.1 :: rowL v0_5 72 2 Location.ty s33.2.2.2.2.2.2.2.1 :: rowL w34 76 5 Spill.ty s33.2.2.2.2.2.2.2.2 :: Item.blk g13 43 [(tL 6 VInstr.ty y11.Instrs), (tI y11.End), (tI y11.Reg), (tI y11.Target), (tI y11.Else)] :: L)
                cases k with
                | zero => exact (nz hI).elim
                | succ k =>
                  have h : regalloc_allocator_reducePressure_l3 K r1 s8 s19 (k + 1) s33 = some z30 := hI
                  rw [regalloc_allocator_reducePressure_l3.eq_2] at h
                  refine okC_seq ?_
                  refine okC_seq ?_
                  refine okC_region ?_
                  refine okL_step 45 (tL 1 lI s33.1) rfl rfl (does_move rfl) ?_
                  refine okL_step 46 (tI ((s33.1).length : Int)) rfl rfl (does_len (sz := 1) (f := lI) (l := s33.1) rfl Tryd.underlying31 rfl) ?_
                  refine okL_step 47 (tB (decide (((s33.1).length : Int) > 5))) rfl rfl (does_gtr rfl rfl) ?_
                  refine okL_nil ?_
                  refine okX_next ?_
                  refine okC_cond (b := (decide (((s33.1).length : Int) > 5))) rfl (fun hb35 => ?_) (fun hb35 => ?_)
                  · replace h := ct hb35 h
                    refine okC_skip ?_
                    refine okX_next ?_
                    refine okC_seq ?_
                    refine okC_block ?_
                    refine okC_seq ?_
                    refine okC_region ?_
                    refine okL_step 51 (tL 1 lI s33.1) rfl rfl (does_move rfl) ?_
                    obtain ⟨y36, hi37, h⟩ := bs h
                    refine okL_step 52 (Ty.ptr [(tI y36)]) rfl rfl (does_index (sz := 1) (f := lI) (l := s33.1) (n := 0) y36 Tryd.underlying31 Tryd.sizeOf3 hi37 rfl rfl) ?_
                    refine okL_step 53 (tI y36) rfl rfl (does_load1 Tryd.isAgg3 rfl) ?_
                    refine okL_step 7 (tI y36) rfl rfl (does_assign rfl) ?_
                    refine okL_nil ?_
                    refine okX_next ?_
                    refine okC_seq ?_
                    refine okC_seq ?_
                    refine okC_region ?_
                    refine okL_step 54 (tL 1 lI s33.1) rfl rfl (does_move rfl) ?_
                    refine okL_step 55 (tI ((s33.1).length : Int)) rfl rfl (does_len (sz := 1) (f := lI) (l := s33.1) rfl Tryd.underlying31 rfl) ?_
                    refine okL_step 56 (tI 0) rfl rfl (does_move rfl) ?_
                    refine okL_nil ?_
                    refine okX_next ?_
                    obtain ⟨z40, h42, hz41⟩ := bs h
                    refine okC_meetE (X := Int) (fun x => z40 = x) (fun x : Int => [(0, (pAt g0 0)), (2, (tL 1 lI r1)), (3, (tI s8.1)), (4, (pAt g13 0)), (5, (tI s19.1)), (6, (tL 1 lI s33.1)), (7, (tI x)), (19, (tL 5 Block.ty a0.c.Blocks)), (20, (tI ((a0.c.Blocks).length : Int))), (21, (tI s8.1))]) (fun x : Int => Item.blk g0 135 [(tI s33.2.1), (tI s33.2.2.1), (tL 5 Block.ty s33.2.2.2.1), (tL 1 ls_SSI s33.2.2.2.2.1), (Ty.own v0_4), (Ty.own v0_5), (Ty.own w34), (tI s33.2.2.2.2.2.1)] :: rowL v0_4 4 1 lB s33.2.2.2.2.2.2.1 :: rowL v0_5 72 2 Location.ty s33.2.2.2.2.2.2.2.1 :: rowL w34 76 5 Spill.ty s33.2.2.2.2.2.2.2.2 :: Item.blk g13 43 [(tL 6 VInstr.ty y11.Instrs), (tI y11.End), (tI y11.Reg), (tI y11.Target), (tI y11.Else)] :: L) ?_ ?_
                    · refine okC_block ?_
                      refine okC_loop (X := (Int × Int)) (fun k x => regalloc_allocator_reducePressure_l4 K r1 s33 k x = some z40) (fun x : (Int × Int) => [(0, (pAt g0 0)), (2, (tL 1 lI r1)), (3, (tI s8.1)), (4, (pAt g13 0)), (5, (tI s19.1)), (6, (tL 1 lI s33.1)), (7, (tI x.1)), (19, (tL 5 Block.ty a0.c.Blocks)), (20, (tI ((a0.c.Blocks).length : Int))), (21, (tI s8.1)), (54, (tL 1 lI s33.1)), (55, (tI ((s33.1).length : Int))), (56, (tI x.2))]) (fun x : (Int × Int) => Item.blk g0 135 [(tI s33.2.1), (tI s33.2.2.1), (tL 5 Block.ty s33.2.2.2.1), (tL 1 ls_SSI s33.2.2.2.2.1), (Ty.own v0_4), (Ty.own v0_5), (Ty.own w34), (tI s33.2.2.2.2.2.1)] :: rowL v0_4 4 1 lB s33.2.2.2.2.2.2.1 :: rowL v0_5 72 2 Location.ty s33.2.2.2.2.2.2.2.1 :: rowL w34 76 5 Spill.ty s33.2.2.2.2.2.2.2.2 :: Item.blk g13 43 [(tL 6 VInstr.ty y11.Instrs), (tI y11.End), (tI y11.Reg), (tI y11.Target), (tI y11.Else)] :: L) K (y36, 0) h42 (cc rfl (cc rfl (cc rfl (cc rfl (cc rfl (cc rfl (cc rfl (cc rfl (cc rfl (cc rfl (cc rfl (cc rfl (cc rfl cn))))))))))))) rfl (fun k s43 hI => ?_)
                      change OkC _ _ _ [(0, (pAt g0 0)), (2, (tL 1 lI r1)), (3, (tI s8.1)), (4, (pAt g13 0)), (5, (tI s19.1)), (6, (tL 1 lI s33.1)), (7, (tI s43.1)), (19, (tL 5 Block.ty a0.c.Blocks)), (20, (tI ((a0.c.Blocks).length : Int))), (21, (tI s8.1)), (54, (tL 1 lI s33.1)), (55, (tI ((s33.1).length : Int))), (56, (tI s43.2))] (Item.blk g0 135 [(tI s33.2.1), (tI s33.2.2.1), (tL 5 Block.ty s33.2.2.2.1), (tL 1 ls_SSI s33.2.2.2.2.1), (Ty.own v0_4), (Ty.own v0_5), (Ty.own w34), (tI s33.2.2.2.2.2.1)] :: rowL v0_4 4 1 lB s33.2.2.2.2.2.2.1 :: rowL v0_5 72 2 Location.ty s33.2.2.2.2.2.2.2.1 :: rowL w34 76 5 Spill.ty s33.2.2.2.2.2.2.2.2 :: Item.blk g13 43 [(tL 6 VInstr.ty y11.Instrs), (tI y11.End), (tI y11.Reg), (tI y11.Target), (tI y11.Else)] :: L)
                      cases k with
                      | zero => exact (nz hI).elim
                      | succ k =>
                        have h : regalloc_allocator_reducePressure_l4 K r1 s33 (k + 1) s43 = some z40 := hI
                        rw [regalloc_allocator_reducePressure_l4.eq_2] at h
                        refine okC_seq ?_
                        refine okC_region ?_
                        refine okL_step 57 (tB (decide (s43.2 < ((s33.1).length : Int)))) rfl rfl (does_lss rfl rfl) ?_
                        refine okL_nil ?_
                        refine okX_next ?_
                        refine okC_seq ?_
                        refine okC_cond (b := (decide (s43.2 < ((s33.1).length : Int)))) rfl (fun hb45 => ?_) (fun hb45 => ?_)
                        · replace h := ct hb45 h
                          refine okC_skip ?_
                          refine okX_next ?_
                          obtain ⟨z48, h50, hz49⟩ := bs h
                          refine okC_meet (X := Int) (fun x => z48 = x) (fun x : Int => [(0, (pAt g0 0)), (2, (tL 1 lI r1)), (3, (tI s8.1)), (4, (pAt g13 0)), (5, (tI s19.1)), (6, (tL 1 lI s33.1)), (7, (tI x)), (19, (tL 5 Block.ty a0.c.Blocks)), (20, (tI ((a0.c.Blocks).length : Int))), (21, (tI s8.1)), (54, (tL 1 lI s33.1)), (55, (tI ((s33.1).length : Int))), (56, (tI s43.2))]) (fun x : Int => Item.blk g0 135 [(tI s33.2.1), (tI s33.2.2.1), (tL 5 Block.ty s33.2.2.2.1), (tL 1 ls_SSI s33.2.2.2.2.1), (Ty.own v0_4), (Ty.own v0_5), (Ty.own w34), (tI s33.2.2.2.2.2.1)] :: rowL v0_4 4 1 lB s33.2.2.2.2.2.2.1 :: rowL v0_5 72 2 Location.ty s33.2.2.2.2.2.2.2.1 :: rowL w34 76 5 Spill.ty s33.2.2.2.2.2.2.2.2 :: Item.blk g13 43 [(tL 6 VInstr.ty y11.Instrs), (tI y11.End), (tI y11.Reg), (tI y11.Target), (tI y11.Else)] :: L) ?_ ?_
                          · refine okC_block ?_
                            refine okC_seq ?_
                            refine okC_region ?_
                            obtain ⟨y51, hi52, h50⟩ := bs h50
                            refine okL_step 58 (Ty.ptr [(tI y51)]) rfl rfl (does_index (sz := 1) (f := lI) (l := s33.1) (n := s43.2) y51 Tryd.underlying31 Tryd.sizeOf3 hi52 rfl rfl) ?_
                            refine okL_step 59 (tI y51) rfl rfl (does_load1 Tryd.isAgg3 rfl) ?_
                            refine okL_step 9 (tI y51) rfl rfl (does_assign rfl) ?_
                            refine okL_nil ?_
                            refine okX_next ?_
                            refine okC_seq ?_
                            refine okC_cov [(0, (pAt g0 0)), (2, (tL 1 lI r1)), (3, (tI s8.1)), (4, (pAt g13 0)), (5, (tI s19.1)), (6, (tL 1 lI s33.1)), (7, (tI s43.1)), (9, (tI y51)), (19, (tL 5 Block.ty a0.c.Blocks)), (20, (tI ((a0.c.Blocks).length : Int))), (21, (tI s8.1)), (54, (tL 1 lI s33.1)), (55, (tI ((s33.1).length : Int))), (56, (tI s43.2))] (cc rfl (cc rfl (cc rfl (cc rfl (cc rfl (cc rfl (cc rfl (cc rfl (cc rfl (cc rfl (cc rfl (cc rfl (cc rfl (cc rfl cn)))))))))))))) ?_
                            obtain ⟨y53, hi54, h50⟩ := bs h50
                            obtain ⟨y55, hi56, h50⟩ := bs h50
                            refine okC_draw 8 [some (60, (tL 1 lI r1)), some (61, (tI y51)), some (62, (Ty.ptr [(tI y53)])), some (63, (tI y53)), some (64, (tL 1 lI r1)), some (65, (tI s43.1)), some (66, (Ty.ptr [(tI y55)])), some (67, (tI y55))] ⟨Item.blk g0 135 [(tI s33.2.1), (tI s33.2.2.1), (tL 5 Block.ty s33.2.2.2.1), (tL 1 ls_SSI s33.2.2.2.2.1), (Ty.own v0_4), (Ty.own v0_5), (Ty.own w34), (tI s33.2.2.2.2.2.1)] :: rowL v0_4 4 1 lB s33.2.2.2.2.2.2.1 :: rowL v0_5 72 2 Location.ty s33.2.2.2.2.2.2.2.1 :: rowL w34 76 5 Spill.ty s33.2.2.2.2.2.2.2.2 :: Item.blk g13 43 [(tL 6 VInstr.ty y11.Instrs), (tI y11.End), (tI y11.Reg), (tI y11.Target), (tI y11.Else)] :: ([] : List Item), Item.blk g0 135 [(tI s33.2.1), (tI s33.2.2.1), (tL 5 Block.ty s33.2.2.2.1), (tL 1 ls_SSI s33.2.2.2.2.1), (Ty.own v0_4), (Ty.own v0_5), (Ty.own w34), (tI s33.2.2.2.2.2.1)] :: rowL v0_4 4 1 lB s33.2.2.2.2.2.2.1 :: rowL v0_5 72 2 Location.ty s33.2.2.2.2.2.2.2.1 :: rowL w34 76 5 Spill.ty s33.2.2.2.2.2.2.2.2 :: Item.blk g13 43 [(tL 6 VInstr.ty y11.Instrs), (tI y11.End), (tI y11.Reg), (tI y11.Target), (tI y11.Else)] :: ([] : List Item), []⟩ [] mixed rfl rfl (by kernel_rfl) rfl (by kernel_rfl) rfl rfl rfl (fun _ h => List.Sublist.subset (.cons_cons _ (.cons_cons _ (.cons_cons _ (.cons_cons _ (.cons_cons _ (List.nil_sublist _)))))) h) (fun _ h => List.Sublist.subset (.cons_cons _ (.cons_cons _ (.cons_cons _ (.cons_cons _ (.cons_cons _ (List.nil_sublist _)))))) h) rfl (by kernel_rfl) (.inr ⟨by kernel_rfl, by kernel_rfl⟩) (by kernel_rfl) (by kernel_rfl) (dc (draw_plain rfl (does_move rfl)) (dc (draw_plain rfl (does_move rfl)) (dc (draw_plain rfl (does_index (sz := 1) (f := lI) (l := r1) (n := y51) y53 Tryd.underlying31 Tryd.sizeOf3 hi54 rfl rfl)) (dc (draw_plain rfl (does_load1 Tryd.isAgg3 rfl)) (dc (draw_plain rfl (does_move rfl)) (dc (draw_plain rfl (does_move rfl)) (dc (draw_plain rfl (does_index (sz := 1) (f := lI) (l := r1) (n := s43.1) y55 Tryd.underlying31 Tryd.sizeOf3 hi56 rfl rfl)) (dc (draw_plain rfl (does_load1 Tryd.isAgg3 rfl)) (dn))))))))) ?_
                            refine ch_end ?_
                            change OkL _ _ _ _ [(60, (tL 1 lI r1)), (61, (tI y51)), (62, (Ty.ptr [(tI y53)])), (63, (tI y53)), (64, (tL 1 lI r1)), (65, (tI s43.1)), (66, (Ty.ptr [(tI y55)])), (67, (tI y55)), (0, (pAt g0 0)), (2, (tL 1 lI r1)), (3, (tI s8.1)), (4, (pAt g13 0)), (5, (tI s19.1)), (6, (tL 1 lI s33.1)), (7, (tI s43.1)), (9, (tI y51)), (19, (tL 5 Block.ty a0.c.Blocks)), (20, (tI ((a0.c.Blocks).length : Int))), (21, (tI s8.1)), (54, (tL 1 lI s33.1)), (55, (tI ((s33.1).length : Int))), (56, (tI s43.2))] (Item.blk g0 135 [(tI s33.2.1), (tI s33.2.2.1), (tL 5 Block.ty s33.2.2.2.1), (tL 1 ls_SSI s33.2.2.2.2.1), (Ty.own v0_4), (Ty.own v0_5), (Ty.own w34), (tI s33.2.2.2.2.2.1)] :: rowL v0_4 4 1 lB s33.2.2.2.2.2.2.1 :: rowL v0_5 72 2 Location.ty s33.2.2.2.2.2.2.2.1 :: rowL w34 76 5 Spill.ty s33.2.2.2.2.2.2.2.2 :: Item.blk g13 43 [(tL 6 VInstr.ty y11.Instrs), (tI y11.End), (tI y11.Reg), (tI y11.Target), (tI y11.Else)] :: L)
                            refine okL_step 68 (tB (decide (y53 ≤ y55))) rfl rfl (does_leq rfl rfl) ?_
                            refine okL_nil ?_
                            refine okX_next ?_
                            refine okC_cond (b := (decide (y53 ≤ y55))) rfl (fun hb57 => ?_) (fun hb57 => ?_)
                            · replace h50 := ct hb57 h50
                              refine okC_region ?_
                              refine okL_step 69 (tI y51) rfl rfl (does_move rfl) ?_
                              refine okL_step 7 (tI y51) rfl rfl (does_assign rfl) ?_
                              refine okL_nil ?_
                              refine okX_block_normal ?_
                              exact okX_meet (I := _) y51 (smh h50) (cc rfl (cc rfl (cc rfl (cc rfl (cc rfl (cc rfl (cc rfl (cc rfl (cc rfl (cc rfl (cc rfl (cc rfl (cc rfl cn))))))))))))) rfl
                            · replace h50 := cf hb57 h50
                              refine okC_skip ?_
                              refine okX_block_normal ?_
                              exact okX_meet (I := _) s43.1 (smh h50) (cc rfl (cc rfl (cc rfl (cc rfl (cc rfl (cc rfl (cc rfl (cc rfl (cc rfl (cc rfl (cc rfl (cc rfl (cc rfl cn))))))))))))) rfl
                          · intro s46 hx
                            change OkC _ _ _ [(0, (pAt g0 0)), (2, (tL 1 lI r1)), (3, (tI s8.1)), (4, (pAt g13 0)), (5, (tI s19.1)), (6, (tL 1 lI s33.1)), (7, (tI s46)), (19, (tL 5 Block.ty a0.c.Blocks)), (20, (tI ((a0.c.Blocks).length : Int))), (21, (tI s8.1)), (54, (tL 1 lI s33.1)), (55, (tI ((s33.1).length : Int))), (56, (tI s43.2))] (Item.blk g0 135 [(tI s33.2.1), (tI s33.2.2.1), (tL 5 Block.ty s33.2.2.2.1), (tL 1 ls_SSI s33.2.2.2.2.1), (Ty.own v0_4), (Ty.own v0_5), (Ty.own w34), (tI s33.2.2.2.2.2.1)] :: rowL v0_4 4 1 lB s33.2.2.2.2.2.2.1 :: rowL v0_5 72 2 Location.ty s33.2.2.2.2.2.2.2.1 :: rowL w34 76 5 Spill.ty s33.2.2.2.2.2.2.2.2 :: Item.blk g13 43 [(tL 6 VInstr.ty y11.Instrs), (tI y11.End), (tI y11.Reg), (tI y11.Target), (tI y11.Else)] :: L)
                            obtain rfl : s46 = z48 := hx.symm
                            replace h := hz49
                            refine okC_region ?_
                            refine okL_step 70 (tI (w64 (s43.2 + 1))) rfl rfl (does_add rfl rfl) ?_
                            refine okL_step 56 (tI (w64 (s43.2 + 1))) rfl rfl (does_move rfl) ?_
                            refine okL_nil ?_
                            exact okX_again k (Nat.lt_succ_self k) (s46, (w64 (s43.2 + 1))) h (cc rfl (cc rfl (cc rfl (cc rfl (cc rfl (cc rfl (cc rfl (cc rfl (cc rfl (cc rfl (cc rfl (cc rfl (cc rfl cn))))))))))))) rfl
                        · replace h := cf hb45 h
                          refine okC_exit ?_
                          refine okX_then_exit ?_
                          refine okX_again_exit ?_
                          refine okX_block_hit ?_
                          exact okX_meet (I := _) s43.1 (smh h) (cc rfl (cc rfl (cc rfl (cc rfl (cc rfl (cc rfl (cc rfl (cc rfl (cc rfl (cc rfl cn)))))))))) rfl
                    · intro s38 hx
                      change OkX _ _ _ [(0, (pAt g0 0)), (2, (tL 1 lI r1)), (3, (tI s8.1)), (4, (pAt g13 0)), (5, (tI s19.1)), (6, (tL 1 lI s33.1)), (7, (tI s38)), (19, (tL 5 Block.ty a0.c.Blocks)), (20, (tI ((a0.c.Blocks).length : Int))), (21, (tI s8.1))] (Item.blk g0 135 [(tI s33.2.1), (tI s33.2.2.1), (tL 5 Block.ty s33.2.2.2.1), (tL 1 ls_SSI s33.2.2.2.2.1), (Ty.own v0_4), (Ty.own v0_5), (Ty.own w34), (tI s33.2.2.2.2.2.1)] :: rowL v0_4 4 1 lB s33.2.2.2.2.2.2.1 :: rowL v0_5 72 2 Location.ty s33.2.2.2.2.2.2.2.1 :: rowL w34 76 5 Spill.ty s33.2.2.2.2.2.2.2.2 :: Item.blk g13 43 [(tL 6 VInstr.ty y11.Instrs), (tI y11.End), (tI y11.Reg), (tI y11.Target), (tI y11.Else)] :: L)
                      obtain rfl : s38 = z40 := hx.symm
                      replace h := hz41
                      refine okX_next ?_
                      refine okC_region ?_
                      refine okL_step 71 (pAt g0 0) rfl rfl (does_move rfl) ?_
                      refine okL_step 72 (tI s38) rfl rfl (does_move rfl) ?_
                      refine okL_step 73 (tI s8.1) rfl rfl (does_move rfl) ?_
                      refine okL_step 74 (tI s19.1) rfl rfl (does_move rfl) ?_
                      refine okL_step 75 (tL 1 lI s33.1) rfl rfl (does_move rfl) ?_
                      refine okL_step 76 (tI s38) rfl rfl (does_move rfl) ?_
                      obtain ⟨r58, hc59, h⟩ := bs h
                      refine okL_step 77 (tL 1 lI r58) rfl rfl (does_call0 (c_regalloc_without K s33.1 s38 r58 hc59) rfl Tryd.call116 rfl) ?_
                      refine okL_step 78 (Ty.agg [(tI s38), (tI 2), (tI s8.1), (tI s19.1), (tL 1 lI r58)]) rfl rfl (does_build [(tI s38), (tI 2), (tI s8.1), (tI s19.1), (tL 1 lI r58)] Tryd.zeroValue76 Tryd.underlying76 (places76 _ Tryd.underlying76) rfl (fc [(tI s38)] 0 rfl (part_one (one_i _)) rfl rfl (fc [(tI 2)] 1 rfl (part_one (one_i _)) rfl rfl (fc [(tI s8.1)] 2 rfl (part_one (one_i _)) rfl rfl (fc [(tI s19.1)] 3 rfl (part_one (one_i _)) rfl rfl (fc [(tL 1 lI r58)] 4 rfl (part_one (one_slice _ _)) rfl rfl (fn_ rfl))))))) ?_
                      obtain ⟨r60, hc61, h⟩ := bs h
                      refine okL_stepO 79 rfl rfl (doesO_call0 (Item.blk g13 43 [(tL 6 VInstr.ty y11.Instrs), (tI y11.End), (tI y11.Reg), (tI y11.Target), (tI y11.Else)] :: L) (c_regalloc_allocator_spill (⟨(⟨s33.2.1, s33.2.2.1, s33.2.2.2.1⟩ : VFunc), s33.2.2.2.2.1, s33.2.2.2.2.2.2.1, (⟨s33.2.2.2.2.2.2.2.1, s33.2.2.2.2.2.2.2.2, s33.2.2.2.2.2.1⟩ : Allocation)⟩ : RegallocAllocator) (⟨s38, 2, s8.1, s19.1, r58⟩ : Spill) g0 v0_4 v0_5 w34 r60 hc61) rfl Tryd.call117 rfl (pm 0 rfl (pm 0 rfl (pm 0 rfl (pm 0 rfl (pr _))))) (fun v62 => ?_))
                      refine okL_nil ?_
                      refine okX_block_normal ?_
                      refine okX_next ?_
                      refine okC_region ?_
                      refine okL_step 48 (pAt g0 0) rfl rfl (does_move rfl) ?_
                      refine okL_step 49 (tL 1 lI s33.1) rfl rfl (does_move rfl) ?_
                      obtain ⟨r63, hc64, h⟩ := bs h
                      refine okL_stepO 50 rfl rfl (doesO_call0 (Item.blk g13 43 [(tL 6 VInstr.ty y11.Instrs), (tI y11.End), (tI y11.Reg), (tI y11.Target), (tI y11.Else)] :: L) (c_regalloc_allocator_unspilled K r60 s33.1 g0 v0_4 v0_5 v62 r63 hc64) rfl Tryd.call118 rfl (pm 0 rfl (pm 0 rfl (pm 0 rfl (pm 0 rfl (pr _))))) (fun _ => ?_))
                      refine okL_step 6 (tL 1 lI r63) rfl rfl (does_assign rfl) ?_
                      refine okL_nil ?_
                      exact okX_again k (Nat.lt_succ_self k) ((r63, r60.c.Params, r60.c.Regs, r60.c.Blocks, r60.at_, r60.a.Slots, r60.spilled, r60.a.Locations, r60.a.Spills), v62) h (cc rfl (cc rfl (cc rfl (cc rfl (cc rfl (cc rfl (cc rfl (cc rfl (cc rfl cn))))))))) rfl
                  · replace h := cf hb35 h
                    refine okC_exit ?_
                    refine okX_then_exit ?_
                    refine okX_again_exit ?_
                    refine okX_block_hit ?_
                    exact okX_meet (I := _) ((s33.2.1, s33.2.2.1, s33.2.2.2.1, s33.2.2.2.2.1, s33.2.2.2.2.2.1, s33.2.2.2.2.2.2.1, s33.2.2.2.2.2.2.2.1, s33.2.2.2.2.2.2.2.2), w34) (smh h) (cc rfl (cc rfl (cc rfl (cc rfl (cc rfl (cc rfl (cc rfl (cc rfl cn)))))))) rfl
              · intro x hx
                obtain ⟨s28, w29⟩ := x
                change OkX _ _ _ [(0, (pAt g0 0)), (2, (tL 1 lI r1)), (3, (tI s8.1)), (4, (pAt g13 0)), (5, (tI s19.1)), (19, (tL 5 Block.ty a0.c.Blocks)), (20, (tI ((a0.c.Blocks).length : Int))), (21, (tI s8.1))] (Item.blk g0 135 [(tI s28.1), (tI s28.2.1), (tL 5 Block.ty s28.2.2.1), (tL 1 ls_SSI s28.2.2.2.1), (Ty.own v0_4), (Ty.own v0_5), (Ty.own w29), (tI s28.2.2.2.2.1)] :: rowL v0_4 4 1 lB s28.2.2.2.2.2.1 :: rowL v0_5 72 2 Location.ty s28.2.2.2.2.2.2.1 :: rowL w29 76 5 Spill.ty s28.2.2.2.2.2.2.2 :: Item.blk g13 43 [(tL 6 VInstr.ty y11.Instrs), (tI y11.End), (tI y11.Reg), (tI y11.Target), (tI y11.Else)] :: L)
                obtain rfl : s28 = z30 := hx.symm
                replace h := hz31
                refine okX_block_normal ?_
                refine okX_next ?_
                refine okC_region ?_
                refine okL_step 31 (tI s19.1) rfl rfl (does_move rfl) ?_
                refine okL_step 32 (tI (w64 (s19.1 + 1))) rfl rfl (does_add rfl rfl) ?_
                refine okL_step 5 (tI (w64 (s19.1 + 1))) rfl rfl (does_assign rfl) ?_
                refine okL_nil ?_
                refine okX_items [] (Item.blk g13 43 [(tL 6 VInstr.ty y11.Instrs), (tI y11.End), (tI y11.Reg), (tI y11.Target), (tI y11.Else)] :: Item.blk g0 135 [(tI s28.1), (tI s28.2.1), (tL 5 Block.ty s28.2.2.1), (tL 1 ls_SSI s28.2.2.2.1), (Ty.own v0_4), (Ty.own v0_5), (Ty.own w29), (tI s28.2.2.2.2.1)] :: rowL v0_4 4 1 lB s28.2.2.2.2.2.1 :: rowL v0_5 72 2 Location.ty s28.2.2.2.2.2.2.1 :: rowL w29 76 5 Spill.ty s28.2.2.2.2.2.2.2 :: L) (pm 4 rfl (pm 0 rfl (pm 0 rfl (pm 0 rfl (pm 0 rfl (pr _)))))) ?_
                exact okX_again k (Nat.lt_succ_self k) (((w64 (s19.1 + 1)), s28.1, s28.2.1, s28.2.2.1, s28.2.2.2.1, s28.2.2.2.2.1, s28.2.2.2.2.2.1, s28.2.2.2.2.2.2.1, s28.2.2.2.2.2.2.2), w29) h (cc rfl (cc rfl (cc rfl (cc rfl (cc rfl (cc rfl (cc rfl (cc rfl cn)))))))) rfl
            · replace h := cf hb21 h
              refine okC_exit ?_
              refine okX_then_exit ?_
              refine okX_again_exit ?_
              refine okX_block_hit ?_
              exact okX_meet (I := _) ((s19.2.1, s19.2.2.1, s19.2.2.2.1, s19.2.2.2.2.1, s19.2.2.2.2.2.1, s19.2.2.2.2.2.2.1, s19.2.2.2.2.2.2.2.1, s19.2.2.2.2.2.2.2.2), w20) (smh h) (cc rfl (cc rfl (cc rfl (cc rfl (cc rfl cn))))) rfl
        · intro x hx
          obtain ⟨s14, w15⟩ := x
          change OkX _ _ _ [(0, (pAt g0 0)), (2, (tL 1 lI r1)), (19, (tL 5 Block.ty a0.c.Blocks)), (20, (tI ((a0.c.Blocks).length : Int))), (21, (tI s8.1))] (Item.blk g13 43 [(tL 6 VInstr.ty y11.Instrs), (tI y11.End), (tI y11.Reg), (tI y11.Target), (tI y11.Else)] :: Item.blk g0 135 [(tI s14.1), (tI s14.2.1), (tL 5 Block.ty s14.2.2.1), (tL 1 ls_SSI s14.2.2.2.1), (Ty.own v0_4), (Ty.own v0_5), (Ty.own w15), (tI s14.2.2.2.2.1)] :: rowL v0_4 4 1 lB s14.2.2.2.2.2.1 :: rowL v0_5 72 2 Location.ty s14.2.2.2.2.2.2.1 :: rowL w15 76 5 Spill.ty s14.2.2.2.2.2.2.2 :: L)
          obtain rfl : s14 = z16 := hx.symm
          replace h := hz17
          refine okX_block_normal ?_
          refine okX_next ?_
          refine okC_region ?_
          refine okL_step 80 (tI (w64 (s8.1 + 1))) rfl rfl (does_add rfl rfl) ?_
          refine okL_step 21 (tI (w64 (s8.1 + 1))) rfl rfl (does_move rfl) ?_
          refine okL_nil ?_
          refine okX_items [Item.blk g13 43 [(tL 6 VInstr.ty y11.Instrs), (tI y11.End), (tI y11.Reg), (tI y11.Target), (tI y11.Else)]] (Item.blk g0 135 [(tI s14.1), (tI s14.2.1), (tL 5 Block.ty s14.2.2.1), (tL 1 ls_SSI s14.2.2.2.1), (Ty.own v0_4), (Ty.own v0_5), (Ty.own w15), (tI s14.2.2.2.2.1)] :: rowL v0_4 4 1 lB s14.2.2.2.2.2.1 :: rowL v0_5 72 2 Location.ty s14.2.2.2.2.2.2.1 :: rowL w15 76 5 Spill.ty s14.2.2.2.2.2.2.2 :: L) (pm 0 rfl (pm 0 rfl (pm 0 rfl (pm 0 rfl (pm 0 rfl (pr _)))))) ?_
          exact okX_again k (Nat.lt_succ_self k) (((w64 (s8.1 + 1)), s14.1, s14.2.1, s14.2.2.1, s14.2.2.2.1, s14.2.2.2.2.1, s14.2.2.2.2.2.1, s14.2.2.2.2.2.2.1, s14.2.2.2.2.2.2.2), w15) h (cc rfl (cc rfl (cc rfl (cc rfl (cc rfl cn))))) rfl
      · replace h := cf hb10 h
        refine okC_exit ?_
        refine okX_then_exit ?_
        refine okX_again_exit ?_
        refine okX_block_hit ?_
        exact okX_meet (I := _) ((s8.2.1, s8.2.2.1, s8.2.2.2.1, s8.2.2.2.2.1, s8.2.2.2.2.2.1, s8.2.2.2.2.2.2.1, s8.2.2.2.2.2.2.2.1, s8.2.2.2.2.2.2.2.2), w9) (smh h) cn rfl
  · intro x hx
    obtain ⟨s3, w4⟩ := x
    change OkX _ _ _ [] (Item.blk g0 135 [(tI s3.1), (tI s3.2.1), (tL 5 Block.ty s3.2.2.1), (tL 1 ls_SSI s3.2.2.2.1), (Ty.own v0_4), (Ty.own v0_5), (Ty.own w4), (tI s3.2.2.2.2.1)] :: rowL v0_4 4 1 lB s3.2.2.2.2.2.1 :: rowL v0_5 72 2 Location.ty s3.2.2.2.2.2.2.1 :: rowL w4 76 5 Spill.ty s3.2.2.2.2.2.2.2 :: L)
    obtain rfl : s3 = z5 := hx.symm
    replace h := hz6
    obtain rfl := (smh h).symm
    exact okX_end0 w4 Tryd.results93 rfl rfl

def regalloc_allocator_color_l2 (K : Nat) : Nat → (Int × (List Int)) → Option (List Int)
  | 0, _ => none
  | k + 1, s25 => (cnd (decide (s25.1 < 5)) (Option.bind (idx s25.2 s25.1) (fun y28 => (guardO (decide (0 ≤ s25.1) && decide (s25.1 < 5)) (regalloc_allocator_color_l2 K k ((w64 (s25.1 + 1)), (s25.2.set s25.1.toNat (-1))))))) (some s25.2))

def regalloc_allocator_color_l3 (K : Nat) (s8 : (Int × Int × Int × (List Block) × (List (List (List Int))) × Int × (List Bool) × (List Location) × (List Spill))) (y31 : (List Int)) : Nat → (Int × (List Int)) → Option (List Int)
  | 0, _ => none
  | k + 1, s38 => (cnd (decide (s38.1 < ((y31).length : Int))) (Option.bind (Option.bind (idx y31 s38.1) (fun y46 => (Option.bind (cnd (decide (y46 < s8.1)) (Option.bind (idx s8.2.2.2.2.2.2.1 y46) (fun y53 => (some (!y53)))) (some false)) (fun x52 => (Option.bind (cnd x52 (Option.bind (idx s8.2.2.2.2.2.2.2.1 y46) (fun y60 => (Option.bind (idx s38.2 y60.Index) (fun y62 => (guardO (decide (0 ≤ y60.Index) && decide (y60.Index < 5)) (some (decide (y62 < 0)))))))) (some false)) (fun x59 => (cnd x59 (Option.bind (idx s8.2.2.2.2.2.2.2.1 y46) (fun y66 => (Option.bind (idx s38.2 y66.Index) (fun y68 => (guardO (decide (0 ≤ y66.Index) && decide (y66.Index < 5)) (some (s38.2.set y66.Index.toNat y46))))))) (some s38.2)))))))) (fun s41 => (regalloc_allocator_color_l3 K s8 y31 k ((w64 (s38.1 + 1)), s41)))) (some s38.2))

def regalloc_allocator_color_l4 (K : Nat) (s33 : (List Int)) : Nat → Int → Option Int
  | 0, _ => none
  | k + 1, s76 => (Option.bind (cnd (decide (s76 < 5)) (Option.bind (idx s33 s76) (fun y83 => (guardO (decide (0 ≤ s76) && decide (s76 < 5)) (some (decide (y83 ≥ 0)))))) (some false)) (fun x82 => (cnd x82 (regalloc_allocator_color_l4 K s33 k (w64 (s76 + 1))) (some s76))))

def regalloc_allocator_color_l1 (K : Nat) (a0 : RegallocAllocator) (r1 : (List (List Int))) : Nat → (Int × Int × Int × (List Block) × (List (List (List Int))) × Int × (List Bool) × (List Location) × (List Spill)) → Option (Int × Int × (List Block) × (List (List (List Int))) × Int × (List Bool) × (List Location) × (List Spill))
  | 0, _ => none
  | k + 1, s8 => (cnd (decide (s8.1 < ((a0.a.Locations).length : Int))) (Option.bind (Option.bind (idx s8.2.2.2.2.2.2.1 s8.1) (fun y16 => (cnd y16 (some (s8.2.1, s8.2.2.1, s8.2.2.2.1, s8.2.2.2.2.1, s8.2.2.2.2.2.1, s8.2.2.2.2.2.2.1, s8.2.2.2.2.2.2.2.1, s8.2.2.2.2.2.2.2.2)) (Option.bind (regalloc_allocator_color_l2 K K (0, (List.replicate 5 (0 : Int)))) (fun s20 => (Option.bind (idx r1 s8.1) (fun y31 => (Option.bind (regalloc_allocator_color_l3 K s8 y31 K (0, s20)) (fun s33 => (Option.bind (regalloc_allocator_color_l4 K s33 K 0) (fun s71 => (cnd (decide (s71 < 5)) (Option.bind (idx s8.2.2.2.2.2.2.2.1 s8.1) (fun y88 => (some (s8.2.1, s8.2.2.1, s8.2.2.2.1, s8.2.2.2.2.1, s8.2.2.2.2.2.1, s8.2.2.2.2.2.2.1, (s8.2.2.2.2.2.2.2.1.set s8.1.toNat (⟨false, s71⟩ : Location)), s8.2.2.2.2.2.2.2.2)))) (guardO ((s33).length == 5) (Option.bind (app 8 ([] : List Int) s33) (fun l92 => (Option.bind (regalloc_allocator_spill (⟨(⟨s8.2.1, s8.2.2.1, s8.2.2.2.1⟩ : VFunc), s8.2.2.2.2.1, s8.2.2.2.2.2.2.1, (⟨s8.2.2.2.2.2.2.2.1, s8.2.2.2.2.2.2.2.2, s8.2.2.2.2.2.1⟩ : Allocation)⟩ : RegallocAllocator) (⟨s8.1, 3, 0, 0, l92⟩ : Spill)) (fun r95 => (some (r95.c.Params, r95.c.Regs, r95.c.Blocks, r95.at_, r95.a.Slots, r95.spilled, r95.a.Locations, r95.a.Spills))))))))))))))))))) (fun s11 => (regalloc_allocator_color_l1 K a0 r1 k ((w64 (s8.1 + 1)), s11.1, s11.2.1, s11.2.2.1, s11.2.2.2.1, s11.2.2.2.2.1, s11.2.2.2.2.2.1, s11.2.2.2.2.2.2.1, s11.2.2.2.2.2.2.2)))) (some (s8.2.1, s8.2.2.1, s8.2.2.2.1, s8.2.2.2.2.1, s8.2.2.2.2.2.1, s8.2.2.2.2.2.2.1, s8.2.2.2.2.2.2.2.1, s8.2.2.2.2.2.2.2.2)))

def regalloc_allocator_color (K : Nat) (a0 : RegallocAllocator) : Option RegallocAllocator :=
  (Option.bind (regalloc_Interference K a0.c) (fun r1 => (Option.bind (regalloc_allocator_color_l1 K a0 r1 K (0, a0.c.Params, a0.c.Regs, a0.c.Blocks, a0.at_, a0.a.Slots, a0.spilled, a0.a.Locations, a0.a.Spills)) (fun s3 => (some (⟨(⟨s3.1, s3.2.1, s3.2.2.1⟩ : VFunc), s3.2.2.2.1, s3.2.2.2.2.2.1, (⟨s3.2.2.2.2.2.2.1, s3.2.2.2.2.2.2.2, s3.2.2.2.2.1⟩ : Allocation)⟩ : RegallocAllocator))))))

theorem c_regalloc_allocator_color (K : Nat) (a0 : RegallocAllocator) (g0 : Nat) (v0_4 : Value) (v0_5 : Value) (v0_6 : Value) (r : RegallocAllocator) (h : regalloc_allocator_color K a0 = some r) : CallOk Tryd.prog glob 94 [(pAt g0 0)] [Item.blk g0 135 [(tI a0.c.Params), (tI a0.c.Regs), (tL 5 Block.ty a0.c.Blocks), (tL 1 ls_SSI a0.at_), (Ty.own v0_4), (Ty.own v0_5), (Ty.own v0_6), (tI a0.a.Slots)], rowL v0_4 4 1 lB a0.spilled, rowL v0_5 72 2 Location.ty a0.a.Locations, rowL v0_6 76 5 Spill.ty a0.a.Spills] Value (fun x : Value => ((Ty.tup []), [Item.blk g0 135 [(tI r.c.Params), (tI r.c.Regs), (tL 5 Block.ty r.c.Blocks), (tL 1 ls_SSI r.at_), (Ty.own v0_4), (Ty.own v0_5), (Ty.own x), (tI r.a.Slots)], rowL v0_4 4 1 lB r.spilled, rowL v0_5 72 2 Location.ty r.a.Locations, rowL x 76 5 Spill.ty r.a.Spills])) := by
  refine call_of_code Tryd.func94 rfl Tryd.ntmps94 rfl (fun L w => ?_)
  change OkC _ _ _ [(0, (pAt g0 0))] (Item.blk g0 135 [(tI a0.c.Params), (tI a0.c.Regs), (tL 5 Block.ty a0.c.Blocks), (tL 1 ls_SSI a0.at_), (Ty.own v0_4), (Ty.own v0_5), (Ty.own v0_6), (tI a0.a.Slots)] :: rowL v0_4 4 1 lB a0.spilled :: rowL v0_5 72 2 Location.ty a0.a.Locations :: rowL v0_6 76 5 Spill.ty a0.a.Spills :: L)
  unfold regalloc_allocator_color at h
  refine okC_seq ?_
  refine okC_region ?_
  refine okL_step 9 (pAt g0 0) rfl rfl (does_move rfl) ?_
  refine okL_step 10 (pAt g0 0) rfl rfl (does_nilCheck rfl) ?_
  refine okL_step 11 (pAt g0 0) rfl rfl (does_fieldAddrP 0 Tryd.underlying135 rfl Tryd.sizeOf27 rfl rfl) ?_
  refine okL_step 12 (Ty.agg [(tI a0.c.Params), (tI a0.c.Regs), (tL 5 Block.ty a0.c.Blocks)]) rfl rfl (does_loadBA [(tI a0.c.Params), (tI a0.c.Regs), (tL 5 Block.ty a0.c.Blocks)] Tryd.isAgg27 Tryd.sizeOf27 rfl 0 rfl rfl rfl) ?_
  obtain ⟨r1, hc2, h⟩ := bs h
  refine okL_step 13 (tL 1 lIs r1) rfl rfl (does_call0 (c_regalloc_Interference K a0.c r1 hc2) rfl Tryd.call53 rfl) ?_
  refine okL_step 2 (tL 1 lIs r1) rfl rfl (does_assign rfl) ?_
  refine okL_nil ?_
  refine okX_next ?_
  refine okC_seq ?_
  refine okC_region ?_
  refine okL_step 14 (pAt g0 0) rfl rfl (does_move rfl) ?_
  refine okL_step 15 (pAt g0 0) rfl rfl (does_nilCheck rfl) ?_
  refine okL_step 16 (pAt g0 5) rfl rfl (does_fieldAddrP 5 Tryd.underlying135 rfl Tryd.sizeOf66 rfl rfl) ?_
  refine okL_step 17 (pAt g0 5) rfl rfl (does_fieldAddrP 5 Tryd.underlying66 rfl Tryd.sizeOf63 rfl rfl) ?_
  refine okL_step 18 (Ty.own v0_5) rfl rfl (does_loadB1 Tryd.isAgg63 rfl 0 rfl rfl) ?_
  refine okL_step 19 (tI ((a0.a.Locations).length : Int)) rfl rfl (does_lenR rfl Tryd.underlying63 2 rfl rfl) ?_
  refine okL_step 20 (tI 0) rfl rfl (does_move rfl) ?_
  refine okL_nil ?_
  refine okX_next ?_
  obtain ⟨z5, h7, hz6⟩ := bs h
  refine okC_meetE (X := ((Int × Int × (List Block) × (List (List (List Int))) × Int × (List Bool) × (List Location) × (List Spill)) × Value)) (fun x => z5 = x.1) (fun x : ((Int × Int × (List Block) × (List (List (List Int))) × Int × (List Bool) × (List Location) × (List Spill)) × Value) => []) (fun x : ((Int × Int × (List Block) × (List (List (List Int))) × Int × (List Bool) × (List Location) × (List Spill)) × Value) => Item.blk g0 135 [(tI x.1.1), (tI x.1.2.1), (tL 5 Block.ty x.1.2.2.1), (tL 1 ls_SSI x.1.2.2.2.1), (Ty.own v0_4), (Ty.own v0_5), (Ty.own x.2), (tI x.1.2.2.2.2.1)] :: rowL v0_4 4 1 lB x.1.2.2.2.2.2.1 :: rowL v0_5 72 2 Location.ty x.1.2.2.2.2.2.2.1 :: rowL x.2 76 5 Spill.ty x.1.2.2.2.2.2.2.2 :: L) ?_ ?_
  · refine okC_block ?_
    refine okC_loop (X := ((Int × Int × Int × (List Block) × (List (List (List Int))) × Int × (List Bool) × (List Location) × (List Spill)) × Value)) (fun k x => regalloc_allocator_color_l1 K a0 r1 k x.1 = some z5) (fun x : ((Int × Int × Int × (List Block) × (List (List (List Int))) × Int × (List Bool) × (List Location) × (List Spill)) × Value) => [(0, (pAt g0 0)), (2, (tL 1 lIs r1)), (19, (tI ((a0.a.Locations).length : Int))), (20, (tI x.1.1))]) (fun x : ((Int × Int × Int × (List Block) × (List (List (List Int))) × Int × (List Bool) × (List Location) × (List Spill)) × Value) => Item.blk g0 135 [(tI x.1.2.1), (tI x.1.2.2.1), (tL 5 Block.ty x.1.2.2.2.1), (tL 1 ls_SSI x.1.2.2.2.2.1), (Ty.own v0_4), (Ty.own v0_5), (Ty.own x.2), (tI x.1.2.2.2.2.2.1)] :: rowL v0_4 4 1 lB x.1.2.2.2.2.2.2.1 :: rowL v0_5 72 2 Location.ty x.1.2.2.2.2.2.2.2.1 :: rowL x.2 76 5 Spill.ty x.1.2.2.2.2.2.2.2.2 :: L) K ((0, a0.c.Params, a0.c.Regs, a0.c.Blocks, a0.at_, a0.a.Slots, a0.spilled, a0.a.Locations, a0.a.Spills), v0_6) h7 (cc rfl (cc rfl (cc rfl (cc rfl cn)))) rfl (fun k x hI => ?_)
    obtain ⟨s8, w9⟩ := x
    change OkC _ _ _ [(0, (pAt g0 0)), (2, (tL 1 lIs r1)), (19, (tI ((a0.a.Locations).length : Int))), (20, (tI s8.1))] (Item.blk g0 135 [(tI s8.2.1), (tI s8.2.2.1), (tL 5 Block.ty s8.2.2.2.1), (tL 1 ls_SSI s8.2.2.2.2.1), (Ty.own v0_4), (Ty.own v0_5), (Ty.own w9), (tI s8.2.2.2.2.2.1)] :: rowL v0_4 4 1 lB s8.2.2.2.2.2.2.1 :: rowL v0_5 72 2 Location.ty s8.2.2.2.2.2.2.2.1 :: rowL w9 76 5 Spill.ty s8.2.2.2.2.2.2.2.2 :: L)
    cases k with
    | zero => exact (nz hI).elim
    | succ k =>
      have h : regalloc_allocator_color_l1 K a0 r1 (k + 1) s8 = some z5 := hI
      rw [regalloc_allocator_color_l1.eq_2] at h
      refine okC_seq ?_
      refine okC_region ?_
      refine okL_step 21 (tB (decide (s8.1 < ((a0.a.Locations).length : Int)))) rfl rfl (does_lss rfl rfl) ?_
      refine okL_nil ?_
      refine okX_next ?_
      refine okC_seq ?_
      refine okC_cond (b := (decide (s8.1 < ((a0.a.Locations).length : Int)))) rfl (fun hb10 => ?_) (fun hb10 => ?_)
      · replace h := ct hb10 h
        refine okC_skip ?_
        refine okX_next ?_
        obtain ⟨z13, h15, hz14⟩ := bs h
        refine okC_meet (X := ((Int × Int × (List Block) × (List (List (List Int))) × Int × (List Bool) × (List Location) × (List Spill)) × Value)) (fun x => z13 = x.1) (fun x : ((Int × Int × (List Block) × (List (List (List Int))) × Int × (List Bool) × (List Location) × (List Spill)) × Value) => [(0, (pAt g0 0)), (2, (tL 1 lIs r1)), (19, (tI ((a0.a.Locations).length : Int))), (20, (tI s8.1))]) (fun x : ((Int × Int × (List Block) × (List (List (List Int))) × Int × (List Bool) × (List Location) × (List Spill)) × Value) => Item.blk g0 135 [(tI x.1.1), (tI x.1.2.1), (tL 5 Block.ty x.1.2.2.1), (tL 1 ls_SSI x.1.2.2.2.1), (Ty.own v0_4), (Ty.own v0_5), (Ty.own x.2), (tI x.1.2.2.2.2.1)] :: rowL v0_4 4 1 lB x.1.2.2.2.2.2.1 :: rowL v0_5 72 2 Location.ty x.1.2.2.2.2.2.2.1 :: rowL x.2 76 5 Spill.ty x.1.2.2.2.2.2.2.2 :: L) ?_ ?_
        · refine okC_block ?_
          refine okC_seq ?_
          refine okC_region ?_
          refine okL_step 22 (tI s8.1) rfl rfl (does_move rfl) ?_
          refine okL_step 3 (tI s8.1) rfl rfl (does_assign rfl) ?_
          refine okL_nil ?_
          refine okX_next ?_
          refine okC_seq ?_
          refine okC_seq ?_
          refine okC_region ?_
          refine okL_step 23 (pAt g0 0) rfl rfl (does_move rfl) ?_
          refine okL_step 24 (pAt g0 0) rfl rfl (does_nilCheck rfl) ?_
          refine okL_step 25 (pAt g0 4) rfl rfl (does_fieldAddrP 4 Tryd.underlying135 rfl Tryd.sizeOf79 rfl rfl) ?_
          refine okL_step 26 (Ty.own v0_4) rfl rfl (does_loadB1 Tryd.isAgg79 rfl 0 rfl rfl) ?_
          refine okL_step 27 (tI s8.1) rfl rfl (does_move rfl) ?_
          obtain ⟨y16, hi17, h15⟩ := bs h15
          refine okL_step 28 (Ty.rptr v0_4 (s8.1.toNat * 1)) rfl rfl (does_indexR (f := lB) (l := s8.2.2.2.2.2.2.1) (m := s8.1) el79 1 y16 hi17 rfl rfl rfl) ?_
          refine okL_step 29 (tB y16) rfl rfl (does_loadR1 (sz := 1) (f := lB) (l := s8.2.2.2.2.2.2.1) 1 y16 0 Tryd.isAgg4 hi17 rfl rfl rfl) ?_
          refine okL_nil ?_
          refine okX_next ?_
          refine okC_cond (b := y16) rfl (fun hb18 => ?_) (fun hb18 => ?_)
          · replace h15 := ct hb18 h15
            refine okC_exit ?_
            refine okX_then_exit ?_
            refine okX_block_hit ?_
            exact okX_meet (I := _) ((s8.2.1, s8.2.2.1, s8.2.2.2.1, s8.2.2.2.2.1, s8.2.2.2.2.2.1, s8.2.2.2.2.2.2.1, s8.2.2.2.2.2.2.2.1, s8.2.2.2.2.2.2.2.2), w9) (smh h15) (cc rfl (cc rfl (cc rfl (cc rfl cn)))) rfl
          · replace h15 := cf hb18 h15
            refine okC_skip ?_
            refine okX_next ?_
            refine okC_seq ?_
            refine okC_region ?_
            refine okL_stepO 4 rfl rfl (doesO_alloc (cI (List.replicate 5 (0 : Int))) Tryd.zeroValue155 (part_of (sub_agg [(.int .i64 0), (.int .i64 0), (.int .i64 0), (.int .i64 0), (.int .i64 0)] rfl) (part_agg _)) (fun g19 => ?_))
            refine okL_nil ?_
            refine okX_next ?_
            refine okC_seq ?_
            refine okC_seq ?_
            refine okC_region ?_
            refine okL_step 30 (tI 0) rfl rfl (does_move rfl) ?_
            refine okL_nil ?_
            refine okX_next ?_
            obtain ⟨z22, h24, hz23⟩ := bs h15
            refine okC_meetE (X := (List Int)) (fun x => z22 = x) (fun x : (List Int) => [(0, (pAt g0 0)), (2, (tL 1 lIs r1)), (3, (tI s8.1)), (4, (pAt g19 0)), (19, (tI ((a0.a.Locations).length : Int))), (20, (tI s8.1))]) (fun x : (List Int) => arrL g19 155 x :: Item.blk g0 135 [(tI s8.2.1), (tI s8.2.2.1), (tL 5 Block.ty s8.2.2.2.1), (tL 1 ls_SSI s8.2.2.2.2.1), (Ty.own v0_4), (Ty.own v0_5), (Ty.own w9), (tI s8.2.2.2.2.2.1)] :: rowL v0_4 4 1 lB s8.2.2.2.2.2.2.1 :: rowL v0_5 72 2 Location.ty s8.2.2.2.2.2.2.2.1 :: rowL w9 76 5 Spill.ty s8.2.2.2.2.2.2.2.2 :: L) ?_ ?_
            · refine okC_block ?_
              refine okC_loop (X := (Int × (List Int))) (fun k x => regalloc_allocator_color_l2 K k x = some z22) (fun x : (Int × (List Int)) => [(0, (pAt g0 0)), (2, (tL 1 lIs r1)), (3, (tI s8.1)), (4, (pAt g19 0)), (19, (tI ((a0.a.Locations).length : Int))), (20, (tI s8.1)), (30, (tI x.1))]) (fun x : (Int × (List Int)) => arrL g19 155 x.2 :: Item.blk g0 135 [(tI s8.2.1), (tI s8.2.2.1), (tL 5 Block.ty s8.2.2.2.1), (tL 1 ls_SSI s8.2.2.2.2.1), (Ty.own v0_4), (Ty.own v0_5), (Ty.own w9), (tI s8.2.2.2.2.2.1)] :: rowL v0_4 4 1 lB s8.2.2.2.2.2.2.1 :: rowL v0_5 72 2 Location.ty s8.2.2.2.2.2.2.2.1 :: rowL w9 76 5 Spill.ty s8.2.2.2.2.2.2.2.2 :: L) K (0, (List.replicate 5 (0 : Int))) h24 (cc rfl (cc rfl (cc rfl (cc rfl (cc rfl (cc rfl (cc rfl cn))))))) rfl (fun k s25 hI => ?_)
              change OkC _ _ _ [(0, (pAt g0 0)), (2, (tL 1 lIs r1)), (3, (tI s8.1)), (4, (pAt g19 0)), (19, (tI ((a0.a.Locations).length : Int))), (20, (tI s8.1)), (30, (tI s25.1))] (arrL g19 155 s25.2 :: Item.blk g0 135 [(tI s8.2.1), (tI s8.2.2.1), (tL 5 Block.ty s8.2.2.2.1), (tL 1 ls_SSI s8.2.2.2.2.1), (Ty.own v0_4), (Ty.own v0_5), (Ty.own w9), (tI s8.2.2.2.2.2.1)] :: rowL v0_4 4 1 lB s8.2.2.2.2.2.2.1 :: rowL v0_5 72 2 Location.ty s8.2.2.2.2.2.2.2.1 :: rowL w9 76 5 Spill.ty s8.2.2.2.2.2.2.2.2 :: L)
              cases k with
              | zero => exact (nz hI).elim
              | succ k =>
                have h : regalloc_allocator_color_l2 K (k + 1) s25 = some z22 := hI
                rw [regalloc_allocator_color_l2.eq_2] at h
                refine okC_seq ?_
                refine okC_region ?_
                refine okL_step 31 (tB (decide (s25.1 < 5))) rfl rfl (does_lss rfl rfl) ?_
                refine okL_nil ?_
                refine okX_next ?_
                refine okC_seq ?_
                refine okC_cond (b := (decide (s25.1 < 5))) rfl (fun hb27 => ?_) (fun hb27 => ?_)
                · replace h := ct hb27 h
                  refine okC_skip ?_
                  refine okX_next ?_
                  refine okC_seq ?_
                  refine okC_block ?_
                  refine okC_seq ?_
                  refine okC_region ?_
                  refine okL_step 32 (tI s25.1) rfl rfl (does_move rfl) ?_
                  refine okL_step 5 (tI s25.1) rfl rfl (does_assign rfl) ?_
                  refine okL_nil ?_
                  refine okX_next ?_
                  refine okC_region ?_
                  refine okL_step 33 (tI s25.1) rfl rfl (does_move rfl) ?_
                  obtain ⟨y28, hi29, h⟩ := bs h
                  obtain ⟨hg30, h⟩ := gs h
                  refine okL_step 34 (pAt g19 s25.1.toNat) rfl rfl (does_indexA (m := s25.1) Tryd.underlying155 Tryd.sizeOf3 hg30 rfl rfl) ?_
                  refine okL_stepU rfl (doesO_storeA (la := s25.2) (m := s25.1) (y0 := y28) (y1 := (-1)) 0 (arrL g19 155 (s25.2.set s25.1.toNat (-1)) :: Item.blk g0 135 [(tI s8.2.1), (tI s8.2.2.1), (tL 5 Block.ty s8.2.2.2.1), (tL 1 ls_SSI s8.2.2.2.2.1), (Ty.own v0_4), (Ty.own v0_5), (Ty.own w9), (tI s8.2.2.2.2.2.1)] :: rowL v0_4 4 1 lB s8.2.2.2.2.2.2.1 :: rowL v0_5 72 2 Location.ty s8.2.2.2.2.2.2.2.1 :: rowL w9 76 5 Spill.ty s8.2.2.2.2.2.2.2.2 :: L) rfl rfl Tryd.sizeOf3 rfl hi29 rfl ?_)
                  refine okL_nil ?_
                  refine okX_block_normal ?_
                  refine okX_next ?_
                  refine okC_region ?_
                  refine okL_step 35 (tI (w64 (s25.1 + 1))) rfl rfl (does_add rfl rfl) ?_
                  refine okL_step 30 (tI (w64 (s25.1 + 1))) rfl rfl (does_move rfl) ?_
                  refine okL_nil ?_
                  exact okX_again k (Nat.lt_succ_self k) ((w64 (s25.1 + 1)), (s25.2.set s25.1.toNat (-1))) h (cc rfl (cc rfl (cc rfl (cc rfl (cc rfl (cc rfl (cc rfl cn))))))) rfl
                · replace h := cf hb27 h
                  refine okC_exit ?_
                  refine okX_then_exit ?_
                  refine okX_again_exit ?_
                  refine okX_block_hit ?_
                  exact okX_meet (I := _) s25.2 (smh h) (cc rfl (cc rfl (cc rfl (cc rfl (cc rfl (cc rfl cn)))))) rfl
            · intro s20 hx
              change OkX _ _ _ [(0, (pAt g0 0)), (2, (tL 1 lIs r1)), (3, (tI s8.1)), (4, (pAt g19 0)), (19, (tI ((a0.a.Locations).length : Int))), (20, (tI s8.1))] (arrL g19 155 s20 :: Item.blk g0 135 [(tI s8.2.1), (tI s8.2.2.1), (tL 5 Block.ty s8.2.2.2.1), (tL 1 ls_SSI s8.2.2.2.2.1), (Ty.own v0_4), (Ty.own v0_5), (Ty.own w9), (tI s8.2.2.2.2.2.1)] :: rowL v0_4 4 1 lB s8.2.2.2.2.2.2.1 :: rowL v0_5 72 2 Location.ty s8.2.2.2.2.2.2.2.1 :: rowL w9 76 5 Spill.ty s8.2.2.2.2.2.2.2.2 :: L)
              obtain rfl : s20 = z22 := hx.symm
              replace h15 := hz23
              refine okX_next ?_
              refine okC_seq ?_
              refine okC_seq ?_
              refine okC_region ?_
              refine okL_step 36 (tL 1 lIs r1) rfl rfl (does_move rfl) ?_
              refine okL_step 37 (tI s8.1) rfl rfl (does_move rfl) ?_
              obtain ⟨y31, hi32, h15⟩ := bs h15
              refine okL_step 38 (Ty.ptr [(tL 1 lI y31)]) rfl rfl (does_index (sz := 1) (f := lIs) (l := r1) (n := s8.1) y31 Tryd.underlying22 Tryd.sizeOf31 hi32 rfl rfl) ?_
              refine okL_step 39 (tL 1 lI y31) rfl rfl (does_load1 Tryd.isAgg31 rfl) ?_
              refine okL_step 40 (tI ((y31).length : Int)) rfl rfl (does_len (sz := 1) (f := lI) (l := y31) rfl Tryd.underlying31 rfl) ?_
              refine okL_step 41 (tI 0) rfl rfl (does_move rfl) ?_
              refine okL_nil ?_
              refine okX_next ?_
              obtain ⟨z35, h37, hz36⟩ := bs h15
              refine okC_meetE (X := (List Int)) (fun x => z35 = x) (fun x : (List Int) => [(0, (pAt g0 0)), (2, (tL 1 lIs r1)), (3, (tI s8.1)), (4, (pAt g19 0)), (19, (tI ((a0.a.Locations).length : Int))), (20, (tI s8.1))]) (fun x : (List Int) => arrL g19 155 x :: Item.blk g0 135 [(tI s8.2.1), (tI s8.2.2.1), (tL 5 Block.ty s8.2.2.2.1), (tL 1 ls_SSI s8.2.2.2.2.1), (Ty.own v0_4), (Ty.own v0_5), (Ty.own w9), (tI s8.2.2.2.2.2.1)] :: rowL v0_4 4 1 lB s8.2.2.2.2.2.2.1 :: rowL v0_5 72 2 Location.ty s8.2.2.2.2.2.2.2.1 :: rowL w9 76 5 Spill.ty s8.2.2.2.2.2.2.2.2 :: L) ?_ ?_
              · refine okC_block ?_
                refine okC_loop (X := (Int × (List Int))) (fun k x => regalloc_allocator_color_l3 K s8 y31 k x = some z35) (fun x : (Int × (List Int)) => [(0, (pAt g0 0)), (2, (tL 1 lIs r1)), (3, (tI s8.1)), (4, (pAt g19 0)), (19, (tI ((a0.a.Locations).length : Int))), (20, (tI s8.1)), (39, (tL 1 lI y31)), (40, (tI ((y31).length : Int))), (41, (tI x.1))]) (fun x : (Int × (List Int)) => arrL g19 155 x.2 :: Item.blk g0 135 [(tI s8.2.1), (tI s8.2.2.1), (tL 5 Block.ty s8.2.2.2.1), (tL 1 ls_SSI s8.2.2.2.2.1), (Ty.own v0_4), (Ty.own v0_5), (Ty.own w9), (tI s8.2.2.2.2.2.1)] :: rowL v0_4 4 1 lB s8.2.2.2.2.2.2.1 :: rowL v0_5 72 2 Location.ty s8.2.2.2.2.2.2.2.1 :: rowL w9 76 5 Spill.ty s8.2.2.2.2.2.2.2.2 :: L) K (0, s20) h37 (cc rfl (cc rfl (cc rfl (cc rfl (cc rfl (cc rfl (cc rfl (cc rfl (cc rfl cn))))))))) rfl (fun k s38 hI => ?_)
                change OkC _ _ _ [(0, (pAt g0 0)), (2, (tL 1 lIs r1)), (3, (tI s8.1)), (4, (pAt g19 0)), (19, (tI ((a0.a.Locations).length : Int))), (20, (tI s8.1)), (39, (tL 1 lI y31)), (40, (tI ((y31).length : Int))), (41, (tI s38.1))] (arrL g19 155 s38.2 :: Item.blk g0 135 [(tI s8.2.1), (tI s8.2.2.1), (tL 5 Block.ty s8.2.2.2.1), (tL 1 ls_SSI s8.2.2.2.2.1), (Ty.own v0_4), (Ty.own v0_5), (Ty.own w9), (tI s8.2.2.2.2.2.1)] :: rowL v0_4 4 1 lB s8.2.2.2.2.2.2.1 :: rowL v0_5 72 2 Location.ty s8.2.2.2.2.2.2.2.1 :: rowL w9 76 5 Spill.ty s8.2.2.2.2.2.2.2.2 :: L)
                cases k with
                | zero => exact (nz hI).elim
                | succ k =>
                  have h : regalloc_allocator_color_l3 K s8 y31 (k + 1) s38 = some z35 := hI
                  rw [regalloc_allocator_color_l3.eq_2] at h
                  refine okC_seq ?_
                  refine okC_region ?_
                  refine okL_step 42 (tB (decide (s38.1 < ((y31).length : Int)))) rfl rfl (does_lss rfl rfl) ?_
                  refine okL_nil ?_
                  refine okX_next ?_
                  refine okC_seq ?_
                  refine okC_cond (b := (decide (s38.1 < ((y31).length : Int)))) rfl (fun hb40 => ?_) (fun hb40 => ?_)
                  · replace h := ct hb40 h
                    refine okC_skip ?_
                    refine okX_next ?_
                    obtain ⟨z43, h45, hz44⟩ := bs h
                    refine okC_meet (X := (List Int)) (fun x => z43 = x) (fun x : (List Int) => [(0, (pAt g0 0)), (2, (tL 1 lIs r1)), (3, (tI s8.1)), (4, (pAt g19 0)), (19, (tI ((a0.a.Locations).length : Int))), (20, (tI s8.1)), (39, (tL 1 lI y31)), (40, (tI ((y31).length : Int))), (41, (tI s38.1))]) (fun x : (List Int) => arrL g19 155 x :: Item.blk g0 135 [(tI s8.2.1), (tI s8.2.2.1), (tL 5 Block.ty s8.2.2.2.1), (tL 1 ls_SSI s8.2.2.2.2.1), (Ty.own v0_4), (Ty.own v0_5), (Ty.own w9), (tI s8.2.2.2.2.2.1)] :: rowL v0_4 4 1 lB s8.2.2.2.2.2.2.1 :: rowL v0_5 72 2 Location.ty s8.2.2.2.2.2.2.2.1 :: rowL w9 76 5 Spill.ty s8.2.2.2.2.2.2.2.2 :: L) ?_ ?_
                    · refine okC_block ?_
                      refine okC_seq ?_
                      refine okC_region ?_
                      obtain ⟨y46, hi47, h45⟩ := bs h45
                      refine okL_step 43 (Ty.ptr [(tI y46)]) rfl rfl (does_index (sz := 1) (f := lI) (l := y31) (n := s38.1) y46 Tryd.underlying31 Tryd.sizeOf3 hi47 rfl rfl) ?_
                      refine okL_step 44 (tI y46) rfl rfl (does_load1 Tryd.isAgg3 rfl) ?_
                      refine okL_step 7 (tI y46) rfl rfl (does_assign rfl) ?_
                      refine okL_nil ?_
                      refine okX_next ?_
                      refine okC_seq ?_
                      refine okC_region ?_
                      refine okL_step 45 (tI y46) rfl rfl (does_move rfl) ?_
                      refine okL_step 46 (tI s8.1) rfl rfl (does_move rfl) ?_
                      refine okL_step 47 (tB (decide (y46 < s8.1))) rfl rfl (does_lss rfl rfl) ?_
                      refine okL_step 48 (tB (decide (y46 < s8.1))) rfl rfl (does_move rfl) ?_
                      obtain ⟨z49, h51, hz50⟩ := bs h45
                      refine okL_meet (X := Bool) 9 (fun x => z49 = x) (fun x : Bool => [(0, (pAt g0 0)), (2, (tL 1 lIs r1)), (3, (tI s8.1)), (4, (pAt g19 0)), (7, (tI y46)), (19, (tI ((a0.a.Locations).length : Int))), (20, (tI s8.1)), (39, (tL 1 lI y31)), (40, (tI ((y31).length : Int))), (41, (tI s38.1)), (57, (tB x))]) (fun x : Bool => arrL g19 155 s38.2 :: Item.blk g0 135 [(tI s8.2.1), (tI s8.2.2.1), (tL 5 Block.ty s8.2.2.2.1), (tL 1 ls_SSI s8.2.2.2.2.1), (Ty.own v0_4), (Ty.own v0_5), (Ty.own w9), (tI s8.2.2.2.2.2.1)] :: rowL v0_4 4 1 lB s8.2.2.2.2.2.2.1 :: rowL v0_5 72 2 Location.ty s8.2.2.2.2.2.2.2.1 :: rowL w9 76 5 Spill.ty s8.2.2.2.2.2.2.2.2 :: L) _ rfl ?_ ?_
                      · refine okL_split (decide (y46 < s8.1)) (fun hb48 => ?_) (fun hb48 => ?_)
                        · replace h51 := ct hb48 h51
                          refine okL_guard 49 (pAt g0 0) 48 (decide (y46 < s8.1)) rfl rfl hb48 rfl rfl (does_move rfl) ?_
                          refine okL_guard 50 (pAt g0 0) 48 (decide (y46 < s8.1)) rfl rfl hb48 rfl rfl (does_nilCheck rfl) ?_
                          refine okL_guard 51 (pAt g0 4) 48 (decide (y46 < s8.1)) rfl rfl hb48 rfl rfl (does_fieldAddrP 4 Tryd.underlying135 rfl Tryd.sizeOf79 rfl rfl) ?_
                          refine okL_guard 52 (Ty.own v0_4) 48 (decide (y46 < s8.1)) rfl rfl hb48 rfl rfl (does_loadB1 Tryd.isAgg79 rfl 1 rfl rfl) ?_
                          refine okL_guard 53 (tI y46) 48 (decide (y46 < s8.1)) rfl rfl hb48 rfl rfl (does_move rfl) ?_
                          obtain ⟨y53, hi54, h51⟩ := bs h51
                          refine okL_guard 54 (Ty.rptr v0_4 (y46.toNat * 1)) 48 (decide (y46 < s8.1)) rfl rfl hb48 rfl rfl (does_indexR (f := lB) (l := s8.2.2.2.2.2.2.1) (m := y46) el79 2 y53 hi54 rfl rfl rfl) ?_
                          refine okL_guard 55 (tB y53) 48 (decide (y46 < s8.1)) rfl rfl hb48 rfl rfl (does_loadR1 (sz := 1) (f := lB) (l := s8.2.2.2.2.2.2.1) 2 y53 0 Tryd.isAgg4 hi54 rfl rfl rfl) ?_
                          refine okL_guard 56 (tB (!y53)) 48 (decide (y46 < s8.1)) rfl rfl hb48 rfl rfl (does_not rfl) ?_
                          refine okL_step 57 (tB (!y53)) rfl rfl (does_pick_t (decide (y46 < s8.1)) rfl hb48 rfl) ?_
                          refine okL_nil ?_
                          exact okX_meet (I := _) (!y53) (smh h51) (cc rfl (cc rfl (cc rfl (cc rfl (cc rfl (cc rfl (cc rfl (cc rfl (cc rfl (cc rfl (cc rfl cn))))))))))) rfl
                        · replace h51 := cf hb48 h51
                          refine okL_skip 49 48 (decide (y46 < s8.1)) rfl rfl hb48 rfl rfl ?_
                          refine okL_skip 50 48 (decide (y46 < s8.1)) rfl rfl hb48 rfl rfl ?_
                          refine okL_skip 51 48 (decide (y46 < s8.1)) rfl rfl hb48 rfl rfl ?_
                          refine okL_skip 52 48 (decide (y46 < s8.1)) rfl rfl hb48 rfl rfl ?_
                          refine okL_skip 53 48 (decide (y46 < s8.1)) rfl rfl hb48 rfl rfl ?_
                          refine okL_skip 54 48 (decide (y46 < s8.1)) rfl rfl hb48 rfl rfl ?_
                          refine okL_skip 55 48 (decide (y46 < s8.1)) rfl rfl hb48 rfl rfl ?_
                          refine okL_skip 56 48 (decide (y46 < s8.1)) rfl rfl hb48 rfl rfl ?_
                          refine okL_step 57 (tB false) rfl rfl (does_pick_f (decide (y46 < s8.1)) rfl hb48 rfl) ?_
                          refine okL_nil ?_
                          exact okX_meet (I := _) false (smh h51) (cc rfl (cc rfl (cc rfl (cc rfl (cc rfl (cc rfl (cc rfl (cc rfl (cc rfl (cc rfl (cc rfl cn))))))))))) rfl
                      · intro x52 hx
                        obtain rfl : x52 = z49 := hx.symm
                        replace h45 := hz50
                        change OkL _ _ _ _ [(0, (pAt g0 0)), (2, (tL 1 lIs r1)), (3, (tI s8.1)), (4, (pAt g19 0)), (7, (tI y46)), (19, (tI ((a0.a.Locations).length : Int))), (20, (tI s8.1)), (39, (tL 1 lI y31)), (40, (tI ((y31).length : Int))), (41, (tI s38.1)), (57, (tB x52))] (arrL g19 155 s38.2 :: Item.blk g0 135 [(tI s8.2.1), (tI s8.2.2.1), (tL 5 Block.ty s8.2.2.2.1), (tL 1 ls_SSI s8.2.2.2.2.1), (Ty.own v0_4), (Ty.own v0_5), (Ty.own w9), (tI s8.2.2.2.2.2.1)] :: rowL v0_4 4 1 lB s8.2.2.2.2.2.2.1 :: rowL v0_5 72 2 Location.ty s8.2.2.2.2.2.2.2.1 :: rowL w9 76 5 Spill.ty s8.2.2.2.2.2.2.2.2 :: L)
                        refine okL_step 58 (tB x52) rfl rfl (does_move rfl) ?_
                        obtain ⟨z56, h58, hz57⟩ := bs h45
                        refine okL_meet (X := Bool) 13 (fun x => z56 = x) (fun x : Bool => [(0, (pAt g0 0)), (2, (tL 1 lIs r1)), (3, (tI s8.1)), (4, (pAt g19 0)), (7, (tI y46)), (19, (tI ((a0.a.Locations).length : Int))), (20, (tI s8.1)), (39, (tL 1 lI y31)), (40, (tI ((y31).length : Int))), (41, (tI s38.1)), (71, (tB x))]) (fun x : Bool => arrL g19 155 s38.2 :: Item.blk g0 135 [(tI s8.2.1), (tI s8.2.2.1), (tL 5 Block.ty s8.2.2.2.1), (tL 1 ls_SSI s8.2.2.2.2.1), (Ty.own v0_4), (Ty.own v0_5), (Ty.own w9), (tI s8.2.2.2.2.2.1)] :: rowL v0_4 4 1 lB s8.2.2.2.2.2.2.1 :: rowL v0_5 72 2 Location.ty s8.2.2.2.2.2.2.2.1 :: rowL w9 76 5 Spill.ty s8.2.2.2.2.2.2.2.2 :: L) _ rfl ?_ ?_
                        · refine okL_split x52 (fun hb55 => ?_) (fun hb55 => ?_)
                          · replace h58 := ct hb55 h58
                            refine okL_guard 59 (pAt g0 0) 58 x52 rfl rfl hb55 rfl rfl (does_move rfl) ?_
                            refine okL_guard 60 (pAt g0 0) 58 x52 rfl rfl hb55 rfl rfl (does_nilCheck rfl) ?_
                            refine okL_guard 61 (pAt g0 5) 58 x52 rfl rfl hb55 rfl rfl (does_fieldAddrP 5 Tryd.underlying135 rfl Tryd.sizeOf66 rfl rfl) ?_
                            refine okL_guard 62 (pAt g0 5) 58 x52 rfl rfl hb55 rfl rfl (does_fieldAddrP 5 Tryd.underlying66 rfl Tryd.sizeOf63 rfl rfl) ?_
                            refine okL_guard 63 (Ty.own v0_5) 58 x52 rfl rfl hb55 rfl rfl (does_loadB1 Tryd.isAgg63 rfl 1 rfl rfl) ?_
                            refine okL_guard 64 (tI y46) 58 x52 rfl rfl hb55 rfl rfl (does_move rfl) ?_
                            obtain ⟨y60, hi61, h58⟩ := bs h58
                            refine okL_guard 65 (Ty.rptr v0_5 (y46.toNat * 2)) 58 x52 rfl rfl hb55 rfl rfl (does_indexR (f := Location.ty) (l := s8.2.2.2.2.2.2.2.1) (m := y46) el63 3 y60 hi61 rfl rfl rfl) ?_
                            refine okL_guard 66 (Ty.rptr v0_5 (y46.toNat * 2 + 1)) 58 x52 rfl rfl hb55 rfl rfl (does_fieldAddrR (y46.toNat * 2 + 1) Tryd.underlying72 rfl Tryd.sizeOf3 rfl rfl) ?_
                            refine okL_guard 67 (tI y60.Index) 58 x52 rfl rfl hb55 rfl rfl (does_loadR1 (sz := 2) (f := Location.ty) (l := s8.2.2.2.2.2.2.2.1) 3 y60 1 Tryd.isAgg3 hi61 rfl rfl rfl) ?_
                            obtain ⟨y62, hi63, h58⟩ := bs h58
                            obtain ⟨hg64, h58⟩ := gs h58
                            refine okL_guard 68 (pAt g19 y60.Index.toNat) 58 x52 rfl rfl hb55 rfl rfl (does_indexA (m := y60.Index) Tryd.underlying155 Tryd.sizeOf3 hg64 rfl rfl) ?_
                            refine okL_guard 69 (tI y62) 58 x52 rfl rfl hb55 rfl rfl (does_loadB1 Tryd.isAgg3 rfl 0 rfl (cI_get hi63)) ?_
                            refine okL_guard 70 (tB (decide (y62 < 0))) 58 x52 rfl rfl hb55 rfl rfl (does_lss rfl rfl) ?_
                            refine okL_step 71 (tB (decide (y62 < 0))) rfl rfl (does_pick_t x52 rfl hb55 rfl) ?_
                            refine okL_nil ?_
                            exact okX_meet (I := _) (decide (y62 < 0)) (smh h58) (cc rfl (cc rfl (cc rfl (cc rfl (cc rfl (cc rfl (cc rfl (cc rfl (cc rfl (cc rfl (cc rfl cn))))))))))) rfl
                          · replace h58 := cf hb55 h58
                            refine okL_skip 59 58 x52 rfl rfl hb55 rfl rfl ?_
                            refine okL_skip 60 58 x52 rfl rfl hb55 rfl rfl ?_
                            refine okL_skip 61 58 x52 rfl rfl hb55 rfl rfl ?_
                            refine okL_skip 62 58 x52 rfl rfl hb55 rfl rfl ?_
                            refine okL_skip 63 58 x52 rfl rfl hb55 rfl rfl ?_
                            refine okL_skip 64 58 x52 rfl rfl hb55 rfl rfl ?_
                            refine okL_skip 65 58 x52 rfl rfl hb55 rfl rfl ?_
                            refine okL_skip 66 58 x52 rfl rfl hb55 rfl rfl ?_
                            refine okL_skip 67 58 x52 rfl rfl hb55 rfl rfl ?_
                            refine okL_skip 68 58 x52 rfl rfl hb55 rfl rfl ?_
                            refine okL_skip 69 58 x52 rfl rfl hb55 rfl rfl ?_
                            refine okL_skip 70 58 x52 rfl rfl hb55 rfl rfl ?_
                            refine okL_step 71 (tB false) rfl rfl (does_pick_f x52 rfl hb55 rfl) ?_
                            refine okL_nil ?_
                            exact okX_meet (I := _) false (smh h58) (cc rfl (cc rfl (cc rfl (cc rfl (cc rfl (cc rfl (cc rfl (cc rfl (cc rfl (cc rfl (cc rfl cn))))))))))) rfl
                        · intro x59 hx
                          obtain rfl : x59 = z56 := hx.symm
                          replace h45 := hz57
                          change OkL _ _ _ _ [(0, (pAt g0 0)), (2, (tL 1 lIs r1)), (3, (tI s8.1)), (4, (pAt g19 0)), (7, (tI y46)), (19, (tI ((a0.a.Locations).length : Int))), (20, (tI s8.1)), (39, (tL 1 lI y31)), (40, (tI ((y31).length : Int))), (41, (tI s38.1)), (71, (tB x59))] (arrL g19 155 s38.2 :: Item.blk g0 135 [(tI s8.2.1), (tI s8.2.2.1), (tL 5 Block.ty s8.2.2.2.1), (tL 1 ls_SSI s8.2.2.2.2.1), (Ty.own v0_4), (Ty.own v0_5), (Ty.own w9), (tI s8.2.2.2.2.2.1)] :: rowL v0_4 4 1 lB s8.2.2.2.2.2.2.1 :: rowL v0_5 72 2 Location.ty s8.2.2.2.2.2.2.2.1 :: rowL w9 76 5 Spill.ty s8.2.2.2.2.2.2.2.2 :: L)
                          refine okL_nil ?_
                          refine okX_next ?_
                          refine okC_cond (b := x59) rfl (fun hb65 => ?_) (fun hb65 => ?_)
                          · replace h45 := ct hb65 h45
                            refine okC_region ?_
                            refine okL_step 72 (pAt g0 0) rfl rfl (does_move rfl) ?_
                            refine okL_step 73 (pAt g0 0) rfl rfl (does_nilCheck rfl) ?_
                            refine okL_step 74 (pAt g0 5) rfl rfl (does_fieldAddrP 5 Tryd.underlying135 rfl Tryd.sizeOf66 rfl rfl) ?_
                            refine okL_step 75 (pAt g0 5) rfl rfl (does_fieldAddrP 5 Tryd.underlying66 rfl Tryd.sizeOf63 rfl rfl) ?_
                            refine okL_step 76 (Ty.own v0_5) rfl rfl (does_loadB1 Tryd.isAgg63 rfl 1 rfl rfl) ?_
                            refine okL_step 77 (tI y46) rfl rfl (does_move rfl) ?_
                            obtain ⟨y66, hi67, h45⟩ := bs h45
                            refine okL_step 78 (Ty.rptr v0_5 (y46.toNat * 2)) rfl rfl (does_indexR (f := Location.ty) (l := s8.2.2.2.2.2.2.2.1) (m := y46) el63 3 y66 hi67 rfl rfl rfl) ?_
                            refine okL_step 79 (Ty.rptr v0_5 (y46.toNat * 2 + 1)) rfl rfl (does_fieldAddrR (y46.toNat * 2 + 1) Tryd.underlying72 rfl Tryd.sizeOf3 rfl rfl) ?_
                            refine okL_step 80 (tI y66.Index) rfl rfl (does_loadR1 (sz := 2) (f := Location.ty) (l := s8.2.2.2.2.2.2.2.1) 3 y66 1 Tryd.isAgg3 hi67 rfl rfl rfl) ?_
                            refine okL_step 81 (tI y46) rfl rfl (does_move rfl) ?_
                            obtain ⟨y68, hi69, h45⟩ := bs h45
                            obtain ⟨hg70, h45⟩ := gs h45
                            refine okL_step 82 (pAt g19 y66.Index.toNat) rfl rfl (does_indexA (m := y66.Index) Tryd.underlying155 Tryd.sizeOf3 hg70 rfl rfl) ?_
                            refine okL_stepU rfl (doesO_storeA (la := s38.2) (m := y66.Index) (y0 := y68) (y1 := y46) 0 (arrL g19 155 (s38.2.set y66.Index.toNat y46) :: Item.blk g0 135 [(tI s8.2.1), (tI s8.2.2.1), (tL 5 Block.ty s8.2.2.2.1), (tL 1 ls_SSI s8.2.2.2.2.1), (Ty.own v0_4), (Ty.own v0_5), (Ty.own w9), (tI s8.2.2.2.2.2.1)] :: rowL v0_4 4 1 lB s8.2.2.2.2.2.2.1 :: rowL v0_5 72 2 Location.ty s8.2.2.2.2.2.2.2.1 :: rowL w9 76 5 Spill.ty s8.2.2.2.2.2.2.2.2 :: L) rfl rfl Tryd.sizeOf3 rfl hi69 rfl ?_)
                            refine okL_nil ?_
                            refine okX_block_normal ?_
                            exact okX_meet (I := _) (s38.2.set y66.Index.toNat y46) (smh h45) (cc rfl (cc rfl (cc rfl (cc rfl (cc rfl (cc rfl (cc rfl (cc rfl (cc rfl cn))))))))) rfl
                          · replace h45 := cf hb65 h45
                            refine okC_skip ?_
                            refine okX_block_normal ?_
                            exact okX_meet (I := _) s38.2 (smh h45) (cc rfl (cc rfl (cc rfl (cc rfl (cc rfl (cc rfl (cc rfl (cc rfl (cc rfl cn))))))))) rfl
                    · intro s41 hx
                      change OkC _ _ _ [(0, (pAt g0 0)), (2, (tL 1 lIs r1)), (3, (tI s8.1)), (4, (pAt g19 0)), (19, (tI ((a0.a.Locations).length : Int))), (20, (tI s8.1)), (39, (tL 1 lI y31)), (40, (tI ((y31).length : Int))), (41, (tI s38.1))] (arrL g19 155 s41 :: Item.blk g0 135 [(tI s8.2.1), (tI s8.2.2.1), (tL 5 Block.ty s8.2.2.2.1), (tL 1 ls_SSI s8.2.2.2.2.1), (Ty.own v0_4), (Ty.own v0_5), (Ty.own w9), (tI s8.2.2.2.2.2.1)] :: rowL v0_4 4 1 lB s8.2.2.2.2.2.2.1 :: rowL v0_5 72 2 Location.ty s8.2.2.2.2.2.2.2.1 :: rowL w9 76 5 Spill.ty s8.2.2.2.2.2.2.2.2 :: L)
                      obtain rfl : s41 = z43 := hx.symm
                      replace h := hz44
                      refine okC_region ?_
                      refine okL_step 83 (tI (w64 (s38.1 + 1))) rfl rfl (does_add rfl rfl) ?_
                      refine okL_step 41 (tI (w64 (s38.1 + 1))) rfl rfl (does_move rfl) ?_
                      refine okL_nil ?_
                      exact okX_again k (Nat.lt_succ_self k) ((w64 (s38.1 + 1)), s41) h (cc rfl (cc rfl (cc rfl (cc rfl (cc rfl (cc rfl (cc rfl (cc rfl (cc rfl cn))))))))) rfl
                  · replace h := cf hb40 h
                    refine okC_exit ?_
                    refine okX_then_exit ?_
                    refine okX_again_exit ?_
                    refine okX_block_hit ?_
                    exact okX_meet (I := _) s38.2 (smh h) (cc rfl (cc rfl (cc rfl (cc rfl (cc rfl (cc rfl cn)))))) rfl
              · intro s33 hx
                change OkX _ _ _ [(0, (pAt g0 0)), (2, (tL 1 lIs r1)), (3, (tI s8.1)), (4, (pAt g19 0)), (19, (tI ((a0.a.Locations).length : Int))), (20, (tI s8.1))] (arrL g19 155 s33 :: Item.blk g0 135 [(tI s8.2.1), (tI s8.2.2.1), (tL 5 Block.ty s8.2.2.2.1), (tL 1 ls_SSI s8.2.2.2.2.1), (Ty.own v0_4), (Ty.own v0_5), (Ty.own w9), (tI s8.2.2.2.2.2.1)] :: rowL v0_4 4 1 lB s8.2.2.2.2.2.2.1 :: rowL v0_5 72 2 Location.ty s8.2.2.2.2.2.2.2.1 :: rowL w9 76 5 Spill.ty s8.2.2.2.2.2.2.2.2 :: L)
                obtain rfl : s33 = z35 := hx.symm
                replace h15 := hz36
                refine okX_next ?_
                refine okC_seq ?_
                refine okC_region ?_
                refine okL_step 8 (tI 0) rfl rfl (does_assign rfl) ?_
                refine okL_nil ?_
                refine okX_next ?_
                obtain ⟨z73, h75, hz74⟩ := bs h15
                refine okC_meet (X := Int) (fun x => z73 = x) (fun x : Int => [(0, (pAt g0 0)), (2, (tL 1 lIs r1)), (3, (tI s8.1)), (4, (pAt g19 0)), (8, (tI x)), (19, (tI ((a0.a.Locations).length : Int))), (20, (tI s8.1))]) (fun x : Int => arrL g19 155 s33 :: Item.blk g0 135 [(tI s8.2.1), (tI s8.2.2.1), (tL 5 Block.ty s8.2.2.2.1), (tL 1 ls_SSI s8.2.2.2.2.1), (Ty.own v0_4), (Ty.own v0_5), (Ty.own w9), (tI s8.2.2.2.2.2.1)] :: rowL v0_4 4 1 lB s8.2.2.2.2.2.2.1 :: rowL v0_5 72 2 Location.ty s8.2.2.2.2.2.2.2.1 :: rowL w9 76 5 Spill.ty s8.2.2.2.2.2.2.2.2 :: L) ?_ ?_
                · refine okC_block ?_
                  refine okC_loop (X := Int) (fun k x => regalloc_allocator_color_l4 K s33 k x = some z73) (fun x : Int => [(0, (pAt g0 0)), (2, (tL 1 lIs r1)), (3, (tI s8.1)), (4, (pAt g19 0)), (8, (tI x)), (19, (tI ((a0.a.Locations).length : Int))), (20, (tI s8.1))]) (fun x : Int => arrL g19 155 s33 :: Item.blk g0 135 [(tI s8.2.1), (tI s8.2.2.1), (tL 5 Block.ty s8.2.2.2.1), (tL 1 ls_SSI s8.2.2.2.2.1), (Ty.own v0_4), (Ty.own v0_5), (Ty.own w9), (tI s8.2.2.2.2.2.1)] :: rowL v0_4 4 1 lB s8.2.2.2.2.2.2.1 :: rowL v0_5 72 2 Location.ty s8.2.2.2.2.2.2.2.1 :: rowL w9 76 5 Spill.ty s8.2.2.2.2.2.2.2.2 :: L) K 0 h75 (cc rfl (cc rfl (cc rfl (cc rfl (cc rfl (cc rfl (cc rfl cn))))))) rfl (fun k s76 hI => ?_)
                  change OkC _ _ _ [(0, (pAt g0 0)), (2, (tL 1 lIs r1)), (3, (tI s8.1)), (4, (pAt g19 0)), (8, (tI s76)), (19, (tI ((a0.a.Locations).length : Int))), (20, (tI s8.1))] (arrL g19 155 s33 :: Item.blk g0 135 [(tI s8.2.1), (tI s8.2.2.1), (tL 5 Block.ty s8.2.2.2.1), (tL 1 ls_SSI s8.2.2.2.2.1), (Ty.own v0_4), (Ty.own v0_5), (Ty.own w9), (tI s8.2.2.2.2.2.1)] :: rowL v0_4 4 1 lB s8.2.2.2.2.2.2.1 :: rowL v0_5 72 2 Location.ty s8.2.2.2.2.2.2.2.1 :: rowL w9 76 5 Spill.ty s8.2.2.2.2.2.2.2.2 :: L)
                  cases k with
                  | zero => exact (nz hI).elim
                  | succ k =>
                    have h : regalloc_allocator_color_l4 K s33 (k + 1) s76 = some z73 := hI
                    rw [regalloc_allocator_color_l4.eq_2] at h
                    refine okC_seq ?_
                    refine okC_seq ?_
                    refine okC_region ?_
                    refine okL_step 84 (tI s76) rfl rfl (does_move rfl) ?_
                    refine okL_step 85 (tB (decide (s76 < 5))) rfl rfl (does_lss rfl rfl) ?_
                    refine okL_step 86 (tB (decide (s76 < 5))) rfl rfl (does_move rfl) ?_
                    obtain ⟨z79, h81, hz80⟩ := bs h
                    refine okL_meet (X := Bool) 5 (fun x => z79 = x) (fun x : Bool => [(0, (pAt g0 0)), (2, (tL 1 lIs r1)), (3, (tI s8.1)), (4, (pAt g19 0)), (8, (tI s76)), (19, (tI ((a0.a.Locations).length : Int))), (20, (tI s8.1)), (91, (tB x))]) (fun x : Bool => arrL g19 155 s33 :: Item.blk g0 135 [(tI s8.2.1), (tI s8.2.2.1), (tL 5 Block.ty s8.2.2.2.1), (tL 1 ls_SSI s8.2.2.2.2.1), (Ty.own v0_4), (Ty.own v0_5), (Ty.own w9), (tI s8.2.2.2.2.2.1)] :: rowL v0_4 4 1 lB s8.2.2.2.2.2.2.1 :: rowL v0_5 72 2 Location.ty s8.2.2.2.2.2.2.2.1 :: rowL w9 76 5 Spill.ty s8.2.2.2.2.2.2.2.2 :: L) _ rfl ?_ ?_
                    · refine okL_split (decide (s76 < 5)) (fun hb78 => ?_) (fun hb78 => ?_)
                      · replace h81 := ct hb78 h81
                        refine okL_guard 87 (tI s76) 86 (decide (s76 < 5)) rfl rfl hb78 rfl rfl (does_move rfl) ?_
                        obtain ⟨y83, hi84, h81⟩ := bs h81
                        obtain ⟨hg85, h81⟩ := gs h81
                        refine okL_guard 88 (pAt g19 s76.toNat) 86 (decide (s76 < 5)) rfl rfl hb78 rfl rfl (does_indexA (m := s76) Tryd.underlying155 Tryd.sizeOf3 hg85 rfl rfl) ?_
                        refine okL_guard 89 (tI y83) 86 (decide (s76 < 5)) rfl rfl hb78 rfl rfl (does_loadB1 Tryd.isAgg3 rfl 0 rfl (cI_get hi84)) ?_
                        refine okL_guard 90 (tB (decide (y83 ≥ 0))) 86 (decide (s76 < 5)) rfl rfl hb78 rfl rfl (does_geq rfl rfl) ?_
                        refine okL_step 91 (tB (decide (y83 ≥ 0))) rfl rfl (does_pick_t (decide (s76 < 5)) rfl hb78 rfl) ?_
                        refine okL_nil ?_
                        exact okX_meet (I := _) (decide (y83 ≥ 0)) (smh h81) (cc rfl (cc rfl (cc rfl (cc rfl (cc rfl (cc rfl (cc rfl (cc rfl cn)))))))) rfl
                      · replace h81 := cf hb78 h81
                        refine okL_skip 87 86 (decide (s76 < 5)) rfl rfl hb78 rfl rfl ?_
                        refine okL_skip 88 86 (decide (s76 < 5)) rfl rfl hb78 rfl rfl ?_
                        refine okL_skip 89 86 (decide (s76 < 5)) rfl rfl hb78 rfl rfl ?_
                        refine okL_skip 90 86 (decide (s76 < 5)) rfl rfl hb78 rfl rfl ?_
                        refine okL_step 91 (tB false) rfl rfl (does_pick_f (decide (s76 < 5)) rfl hb78 rfl) ?_
                        refine okL_nil ?_
                        exact okX_meet (I := _) false (smh h81) (cc rfl (cc rfl (cc rfl (cc rfl (cc rfl (cc rfl (cc rfl (cc rfl cn)))))))) rfl
                    · intro x82 hx
                      obtain rfl : x82 = z79 := hx.symm
                      replace h := hz80
                      change OkL _ _ _ _ [(0, (pAt g0 0)), (2, (tL 1 lIs r1)), (3, (tI s8.1)), (4, (pAt g19 0)), (8, (tI s76)), (19, (tI ((a0.a.Locations).length : Int))), (20, (tI s8.1)), (91, (tB x82))] (arrL g19 155 s33 :: Item.blk g0 135 [(tI s8.2.1), (tI s8.2.2.1), (tL 5 Block.ty s8.2.2.2.1), (tL 1 ls_SSI s8.2.2.2.2.1), (Ty.own v0_4), (Ty.own v0_5), (Ty.own w9), (tI s8.2.2.2.2.2.1)] :: rowL v0_4 4 1 lB s8.2.2.2.2.2.2.1 :: rowL v0_5 72 2 Location.ty s8.2.2.2.2.2.2.2.1 :: rowL w9 76 5 Spill.ty s8.2.2.2.2.2.2.2.2 :: L)
                      refine okL_nil ?_
                      refine okX_next ?_
                      refine okC_cond (b := x82) rfl (fun hb86 => ?_) (fun hb86 => ?_)
                      · replace h := ct hb86 h
                        refine okC_skip ?_
                        refine okX_next ?_
                        refine okC_block ?_
                        refine okC_region ?_
                        refine okL_step 92 (tI s76) rfl rfl (does_move rfl) ?_
                        refine okL_step 93 (tI (w64 (s76 + 1))) rfl rfl (does_add rfl rfl) ?_
                        refine okL_step 8 (tI (w64 (s76 + 1))) rfl rfl (does_assign rfl) ?_
                        refine okL_nil ?_
                        refine okX_block_normal ?_
                        exact okX_again k (Nat.lt_succ_self k) (w64 (s76 + 1)) h (cc rfl (cc rfl (cc rfl (cc rfl (cc rfl (cc rfl (cc rfl cn))))))) rfl
                      · replace h := cf hb86 h
                        refine okC_exit ?_
                        refine okX_then_exit ?_
                        refine okX_again_exit ?_
                        refine okX_block_hit ?_
                        exact okX_meet (I := _) s76 (smh h) (cc rfl (cc rfl (cc rfl (cc rfl (cc rfl (cc rfl (cc rfl cn))))))) rfl
                · intro s71 hx
                  change OkC _ _ _ [(0, (pAt g0 0)), (2, (tL 1 lIs r1)), (3, (tI s8.1)), (4, (pAt g19 0)), (8, (tI s71)), (19, (tI ((a0.a.Locations).length : Int))), (20, (tI s8.1))] (arrL g19 155 s33 :: Item.blk g0 135 [(tI s8.2.1), (tI s8.2.2.1), (tL 5 Block.ty s8.2.2.2.1), (tL 1 ls_SSI s8.2.2.2.2.1), (Ty.own v0_4), (Ty.own v0_5), (Ty.own w9), (tI s8.2.2.2.2.2.1)] :: rowL v0_4 4 1 lB s8.2.2.2.2.2.2.1 :: rowL v0_5 72 2 Location.ty s8.2.2.2.2.2.2.2.1 :: rowL w9 76 5 Spill.ty s8.2.2.2.2.2.2.2.2 :: L)
                  obtain rfl : s71 = z73 := hx.symm
                  replace h15 := hz74
                  refine okC_seq ?_
                  refine okC_seq ?_
                  refine okC_region ?_
                  refine okL_step 94 (tI s71) rfl rfl (does_move rfl) ?_
                  refine okL_step 95 (tB (decide (s71 < 5))) rfl rfl (does_lss rfl rfl) ?_
                  refine okL_nil ?_
                  refine okX_next ?_
                  refine okC_cond (b := (decide (s71 < 5))) rfl (fun hb87 => ?_) (fun hb87 => ?_)
                  · replace h15 := ct hb87 h15
                    refine okC_seq ?_
                    refine okC_region ?_
                    refine okL_step 96 (pAt g0 0) rfl rfl (does_move rfl) ?_
                    refine okL_step 97 (pAt g0 0) rfl rfl (does_nilCheck rfl) ?_
                    refine okL_step 98 (pAt g0 5) rfl rfl (does_fieldAddrP 5 Tryd.underlying135 rfl Tryd.sizeOf66 rfl rfl) ?_
                    refine okL_step 99 (pAt g0 5) rfl rfl (does_fieldAddrP 5 Tryd.underlying66 rfl Tryd.sizeOf63 rfl rfl) ?_
                    refine okL_step 100 (Ty.own v0_5) rfl rfl (does_loadB1 Tryd.isAgg63 rfl 1 rfl rfl) ?_
                    refine okL_step 101 (tI s8.1) rfl rfl (does_move rfl) ?_
                    refine okL_step 102 (tI s71) rfl rfl (does_move rfl) ?_
                    refine okL_step 103 (Ty.agg [(tB false), (tI s71)]) rfl rfl (does_build [(tB false), (tI s71)] Tryd.zeroValue72 Tryd.underlying72 (places72 _ Tryd.underlying72) rfl (fc [(tI s71)] 1 rfl (part_one (one_i _)) rfl rfl (fn_ rfl))) ?_
                    obtain ⟨y88, hi89, h15⟩ := bs h15
                    refine okL_step 104 (Ty.rptr v0_5 (s8.1.toNat * 2)) rfl rfl (does_indexR (f := Location.ty) (l := s8.2.2.2.2.2.2.2.1) (m := s8.1) el63 3 y88 hi89 rfl rfl rfl) ?_
                    refine okL_stepU rfl (doesO_storeR (f := Location.ty) (l := s8.2.2.2.2.2.2.2.1) (sz := 2) (ps := [(tB false), (tI s71)]) (y0 := y88) (y1 := (⟨false, s71⟩ : Location)) (m := s8.1) 3 0 (s8.2.2.2.2.2.2.2.1.set s8.1.toNat (⟨false, s71⟩ : Location)) (arrL g19 155 s33 :: Item.blk g0 135 [(tI s8.2.1), (tI s8.2.2.1), (tL 5 Block.ty s8.2.2.2.1), (tL 1 ls_SSI s8.2.2.2.2.1), (Ty.own v0_4), (Ty.own v0_5), (Ty.own w9), (tI s8.2.2.2.2.2.1)] :: rowL v0_4 4 1 lB s8.2.2.2.2.2.2.1 :: rowL v0_5 72 2 Location.ty (s8.2.2.2.2.2.2.2.1.set s8.1.toNat (⟨false, s71⟩ : Location)) :: rowL w9 76 5 Spill.ty s8.2.2.2.2.2.2.2.2 :: L) rfl rfl (part_agg _) Tryd.sizeOf72 rfl hi89 rfl rfl rfl rfl rfl ?_)
                    refine okL_nil ?_
                    refine okX_next ?_
                    refine okC_exit ?_
                    refine okX_then_exit ?_
                    refine okX_block_hit ?_
                    refine okX_items [arrL g19 155 s33] (Item.blk g0 135 [(tI s8.2.1), (tI s8.2.2.1), (tL 5 Block.ty s8.2.2.2.1), (tL 1 ls_SSI s8.2.2.2.2.1), (Ty.own v0_4), (Ty.own v0_5), (Ty.own w9), (tI s8.2.2.2.2.2.1)] :: rowL v0_4 4 1 lB s8.2.2.2.2.2.2.1 :: rowL v0_5 72 2 Location.ty (s8.2.2.2.2.2.2.2.1.set s8.1.toNat (⟨false, s71⟩ : Location)) :: rowL w9 76 5 Spill.ty s8.2.2.2.2.2.2.2.2 :: L) (pm 0 rfl (pm 0 rfl (pm 0 rfl (pm 0 rfl (pm 0 rfl (pr _)))))) ?_
                    exact okX_meet (I := _) ((s8.2.1, s8.2.2.1, s8.2.2.2.1, s8.2.2.2.2.1, s8.2.2.2.2.2.1, s8.2.2.2.2.2.2.1, (s8.2.2.2.2.2.2.2.1.set s8.1.toNat (⟨false, s71⟩ : Location)), s8.2.2.2.2.2.2.2.2), w9) (smh h15) (cc rfl (cc rfl (cc rfl (cc rfl cn)))) rfl
                  · replace h15 := cf hb87 h15
                    refine okC_skip ?_
                    refine okX_next ?_
                    refine okC_region ?_
                    refine okL_step 105 (pAt g0 0) rfl rfl (does_move rfl) ?_
                    refine okL_step 106 (tI s8.1) rfl rfl (does_move rfl) ?_
                    refine okL_stepO 107 rfl rfl (doesO_build0 (f := lI) el31 (fun v90 => ?_))
                    obtain ⟨hg91, h15⟩ := gs h15
                    refine okL_stepO 108 rfl rfl (doesO_sliceA 1 (rowL v90 3 1 lI ([] : List Int) :: Item.blk g0 135 [(tI s8.2.1), (tI s8.2.2.1), (tL 5 Block.ty s8.2.2.2.1), (tL 1 ls_SSI s8.2.2.2.2.1), (Ty.own v0_4), (Ty.own v0_5), (Ty.own w9), (tI s8.2.2.2.2.2.1)] :: rowL v0_4 4 1 lB s8.2.2.2.2.2.2.1 :: rowL v0_5 72 2 Location.ty s8.2.2.2.2.2.2.2.1 :: rowL w9 76 5 Spill.ty s8.2.2.2.2.2.2.2.2 :: L) Tryd.underlying155 Tryd.sizeOf3 hg91 rfl rfl rfl ?_)
                    obtain ⟨l92, ha93, h15⟩ := bs h15
                    refine okL_stepO 109 rfl rfl (doesO_append (f := lI) (l := ([] : List Int)) (m := s33) el31 0 l92 (fun v94 => rowL v94 3 1 lI l92 :: Item.blk g0 135 [(tI s8.2.1), (tI s8.2.2.1), (tL 5 Block.ty s8.2.2.2.1), (tL 1 ls_SSI s8.2.2.2.2.1), (Ty.own v0_4), (Ty.own v0_5), (Ty.own w9), (tI s8.2.2.2.2.2.1)] :: rowL v0_4 4 1 lB s8.2.2.2.2.2.2.1 :: rowL v0_5 72 2 Location.ty s8.2.2.2.2.2.2.2.1 :: rowL w9 76 5 Spill.ty s8.2.2.2.2.2.2.2.2 :: L) ha93 rfl rfl rfl (fun _ => rfl) (fun v94 => ?_))
                    refine okL_publish 0 [109] (Item.blk g0 135 [(tI s8.2.1), (tI s8.2.2.1), (tL 5 Block.ty s8.2.2.2.1), (tL 1 ls_SSI s8.2.2.2.2.1), (Ty.own v0_4), (Ty.own v0_5), (Ty.own w9), (tI s8.2.2.2.2.2.1)] :: rowL v0_4 4 1 lB s8.2.2.2.2.2.2.1 :: rowL v0_5 72 2 Location.ty s8.2.2.2.2.2.2.2.1 :: rowL w9 76 5 Spill.ty s8.2.2.2.2.2.2.2.2 :: L) rfl (ac rfl an) rfl ?_
                    refine okL_step 110 (Ty.agg [(tI s8.1), (tI 3), (tI 0), (tI 0), (tL 1 lI l92)]) rfl rfl (does_build [(tI s8.1), (tI 3), (tI 0), (tI 0), (tL 1 lI l92)] Tryd.zeroValue76 Tryd.underlying76 (places76 _ Tryd.underlying76) rfl (fc [(tI s8.1)] 0 rfl (part_one (one_i _)) rfl rfl (fc [(tI 3)] 1 rfl (part_one (one_i _)) rfl rfl (fc [(tL 1 lI l92)] 4 rfl (part_one (one_slice _ _)) rfl rfl (fn_ rfl))))) ?_
                    obtain ⟨r95, hc96, h15⟩ := bs h15
                    refine okL_stepO 111 rfl rfl (doesO_call0 (L) (c_regalloc_allocator_spill (⟨(⟨s8.2.1, s8.2.2.1, s8.2.2.2.1⟩ : VFunc), s8.2.2.2.2.1, s8.2.2.2.2.2.2.1, (⟨s8.2.2.2.2.2.2.2.1, s8.2.2.2.2.2.2.2.2, s8.2.2.2.2.2.1⟩ : Allocation)⟩ : RegallocAllocator) (⟨s8.1, 3, 0, 0, l92⟩ : Spill) g0 v0_4 v0_5 w9 r95 hc96) rfl Tryd.call117 rfl (pm 0 rfl (pm 0 rfl (pm 0 rfl (pm 0 rfl (pr _))))) (fun v97 => ?_))
                    refine okL_nil ?_
                    refine okX_block_normal ?_
                    exact okX_meet (I := _) ((r95.c.Params, r95.c.Regs, r95.c.Blocks, r95.at_, r95.a.Slots, r95.spilled, r95.a.Locations, r95.a.Spills), v97) (smh h15) (cc rfl (cc rfl (cc rfl (cc rfl cn)))) rfl
        · intro x hx
          obtain ⟨s11, w12⟩ := x
          change OkC _ _ _ [(0, (pAt g0 0)), (2, (tL 1 lIs r1)), (19, (tI ((a0.a.Locations).length : Int))), (20, (tI s8.1))] (Item.blk g0 135 [(tI s11.1), (tI s11.2.1), (tL 5 Block.ty s11.2.2.1), (tL 1 ls_SSI s11.2.2.2.1), (Ty.own v0_4), (Ty.own v0_5), (Ty.own w12), (tI s11.2.2.2.2.1)] :: rowL v0_4 4 1 lB s11.2.2.2.2.2.1 :: rowL v0_5 72 2 Location.ty s11.2.2.2.2.2.2.1 :: rowL w12 76 5 Spill.ty s11.2.2.2.2.2.2.2 :: L)
          obtain rfl : s11 = z13 := hx.symm
          replace h := hz14
          refine okC_region ?_
          refine okL_step 112 (tI (w64 (s8.1 + 1))) rfl rfl (does_add rfl rfl) ?_
          refine okL_step 20 (tI (w64 (s8.1 + 1))) rfl rfl (does_move rfl) ?_
          refine okL_nil ?_
          exact okX_again k (Nat.lt_succ_self k) (((w64 (s8.1 + 1)), s11.1, s11.2.1, s11.2.2.1, s11.2.2.2.1, s11.2.2.2.2.1, s11.2.2.2.2.2.1, s11.2.2.2.2.2.2.1, s11.2.2.2.2.2.2.2), w12) h (cc rfl (cc rfl (cc rfl (cc rfl cn)))) rfl
      · replace h := cf hb10 h
        refine okC_exit ?_
        refine okX_then_exit ?_
        refine okX_again_exit ?_
        refine okX_block_hit ?_
        exact okX_meet (I := _) ((s8.2.1, s8.2.2.1, s8.2.2.2.1, s8.2.2.2.2.1, s8.2.2.2.2.2.1, s8.2.2.2.2.2.2.1, s8.2.2.2.2.2.2.2.1, s8.2.2.2.2.2.2.2.2), w9) (smh h) cn rfl
  · intro x hx
    obtain ⟨s3, w4⟩ := x
    change OkX _ _ _ [] (Item.blk g0 135 [(tI s3.1), (tI s3.2.1), (tL 5 Block.ty s3.2.2.1), (tL 1 ls_SSI s3.2.2.2.1), (Ty.own v0_4), (Ty.own v0_5), (Ty.own w4), (tI s3.2.2.2.2.1)] :: rowL v0_4 4 1 lB s3.2.2.2.2.2.1 :: rowL v0_5 72 2 Location.ty s3.2.2.2.2.2.2.1 :: rowL w4 76 5 Spill.ty s3.2.2.2.2.2.2.2 :: L)
    obtain rfl : s3 = z5 := hx.symm
    replace h := hz6
    obtain rfl := (smh h).symm
    exact okX_end0 w4 Tryd.results94 rfl rfl

def regalloc_Allocate_l1 (K : Nat) (r26 : RegallocAllocator) : Nat → (Int × Int × (List Location)) → Option (Int × (List Location))
  | 0, _ => none
  | k + 1, s34 => (cnd (decide (s34.1 < ((r26.a.Locations).length : Int))) (Option.bind (Option.bind (idx r26.spilled s34.1) (fun y42 => (cnd y42 (Option.bind (idx s34.2.2 s34.1) (fun y45 => (some ((w64 (s34.2.1 + 1)), (s34.2.2.set s34.1.toNat (⟨true, s34.2.1⟩ : Location)))))) (some (s34.2.1, s34.2.2))))) (fun s37 => (regalloc_Allocate_l1 K r26 k ((w64 (s34.1 + 1)), s37.1, s37.2)))) (some (s34.2.1, s34.2.2)))

def regalloc_Allocate (K : Nat) (a0 : VFunc) : Option (Allocation × Int) :=
  (Option.bind (vcode_Valid K a0) (fun r3 => (cnd (!r3) (some ((⟨[], [], 0⟩ : Allocation), 1)) (Option.bind (regalloc_points K a0) (fun r6 => (Option.bind (mk 1 a0.Regs false) (fun l8 => (Option.bind (idx r6 0) (fun y12 => (Option.bind (idx y12 0) (fun y14 => (cnd (decide (((y14).length : Int) > 0)) (some ((⟨[], [], 0⟩ : Allocation), 205)) (Option.bind (mk 16 a0.Regs (⟨false, 0⟩ : Location)) (fun l17 => (Option.bind (regalloc_allocator_spillAcrossCalls K (⟨a0, r6, l8, (⟨l17, ([] : List Spill), 0⟩ : Allocation)⟩ : RegallocAllocator)) (fun r20 => (Option.bind (regalloc_allocator_reducePressure K r20) (fun r23 => (Option.bind (regalloc_allocator_color K r23) (fun r26 => (Option.bind (regalloc_Allocate_l1 K r26 K (0, a0.Params, r26.a.Locations)) (fun s29 => (cnd (decide (s29.1 > 3000)) (some ((⟨[], [], 0⟩ : Allocation), 6)) (some ((⟨s29.2, r26.a.Spills, s29.1⟩ : Allocation), 0)))))))))))))))))))))))))

theorem c_regalloc_Allocate (K : Nat) (a0 : VFunc) (r : Allocation × Int) (h : regalloc_Allocate K a0 = some r) : CallP Tryd.prog glob 50 [(Ty.agg [(tI a0.Params), (tI a0.Regs), (tL 5 Block.ty a0.Blocks)])] (Ty.tup [(Ty.agg [(tL 2 Location.ty r.1.Locations), (tL 5 Spill.ty r.1.Spills), (tI r.1.Slots)]), (tI r.2)]) := by
  refine call_of_code Tryd.func50 rfl Tryd.ntmps50 rfl (fun L w => ?_)
  change OkC _ _ _ [(0, (Ty.agg [(tI a0.Params), (tI a0.Regs), (tL 5 Block.ty a0.Blocks)]))] (L)
  unfold regalloc_Allocate at h
  refine okC_seq ?_
  refine okC_region ?_
  refine okL_stepO 1 rfl rfl (doesO_box [(tI a0.Params), (tI a0.Regs), (tL 5 Block.ty a0.Blocks)] rfl (part_agg _) (fun g1 => ?_))
  refine okL_stepO 2 rfl rfl (doesO_alloc [(Ty.val (.slice none 0 0)), (Ty.val (.slice none 0 0)), (tI 0)] Tryd.zeroValue66 (part_of (sub_agg [(.slice none 0 0), (.slice none 0 0), (.int .i64 0)] rfl) (part_agg _)) (fun g2 => ?_))
  refine okL_step 3 (tI 0) rfl rfl (does_assign rfl) ?_
  refine okL_nil ?_
  refine okX_next ?_
  refine okC_seq ?_
  refine okC_seq ?_
  refine okC_region ?_
  refine okL_step 6 (Ty.agg [(tI a0.Params), (tI a0.Regs), (tL 5 Block.ty a0.Blocks)]) rfl rfl (does_loadBA [(tI a0.Params), (tI a0.Regs), (tL 5 Block.ty a0.Blocks)] Tryd.isAgg27 Tryd.sizeOf27 rfl 1 rfl rfl rfl) ?_
  obtain ⟨r3, hc4, h⟩ := bs h
  refine okL_step 7 (tB r3) rfl rfl (does_call0 (c_vcode_Valid K a0 r3 hc4) rfl Tryd.call63 rfl) ?_
  refine okL_step 8 (tB (!r3)) rfl rfl (does_not rfl) ?_
  refine okL_nil ?_
  refine okX_next ?_
  refine okC_cond (b := (!r3)) rfl (fun hb5 => ?_) (fun hb5 => ?_)
  · replace h := ct hb5 h
    refine okC_seq ?_
    refine okC_region ?_
    refine okL_step 9 (Ty.agg [(Ty.val (.slice none 0 0)), (Ty.val (.slice none 0 0)), (tI 0)]) rfl rfl (does_build [(Ty.val (.slice none 0 0)), (Ty.val (.slice none 0 0)), (tI 0)] Tryd.zeroValue66 Tryd.underlying66 (places66 _ Tryd.underlying66) rfl (fn_ rfl)) ?_
    refine okL_stepU rfl (doesO_storeB (ps := [(Ty.val (.slice none 0 0)), (Ty.val (.slice none 0 0)), (tI 0)]) 0 [(Ty.val (.slice none 0 0)), (Ty.val (.slice none 0 0)), (tI 0)] (Item.blk g2 66 [(Ty.val (.slice none 0 0)), (Ty.val (.slice none 0 0)), (tI 0)] :: Item.blk g1 27 [(tI a0.Params), (tI a0.Regs), (tL 5 Block.ty a0.Blocks)] :: L) rfl rfl (part_agg _) Tryd.sizeOf66 rfl rfl rfl rfl ?_)
    refine okL_step 3 (tI 1) rfl rfl (does_assign rfl) ?_
    refine okL_nil ?_
    refine okX_next ?_
    refine okC_ret ?_
    refine okX_then_ret ?_
    obtain rfl := (smh h).symm
    refine okX_blksub 0 [(tL 2 Location.ty []), (tL 5 Spill.ty []), (tI 0)] (Item.blk g2 66 [(tL 2 Location.ty []), (tL 5 Spill.ty []), (tI 0)] :: Item.blk g1 27 [(tI a0.Params), (tI a0.Regs), (tL 5 Block.ty a0.Blocks)] :: L) rfl (.cons (sub_nil _) (.cons (sub_nil _) (.cons (sub_refl _) SubL.nil))) rfl ?_
    exact okX_retCT () Tryd.results50 rfl rfl 0 rfl Tryd.isAgg66 Tryd.sizeOf66 rfl rfl [Item.blk g2 66 [(tL 2 Location.ty []), (tL 5 Spill.ty []), (tI 0)], Item.blk g1 27 [(tI a0.Params), (tI a0.Regs), (tL 5 Block.ty a0.Blocks)]] (pm 0 rfl (pm 0 rfl (pr _)))
  · replace h := cf hb5 h
    refine okC_skip ?_
    refine okX_next ?_
    refine okC_seq ?_
    refine okC_cov [(1, (pAt g1 0)), (2, (pAt g2 0))] (cc rfl (cc rfl cn)) ?_
    obtain ⟨r6, hc7, h⟩ := bs h
    obtain ⟨l8, hm9, h⟩ := bs h
    refine okC_draw 6 [some (10, (Ty.agg [(tI a0.Params), (tI a0.Regs), (tL 5 Block.ty a0.Blocks)])), some (11, (Ty.agg [(tI a0.Params), (tI a0.Regs), (tL 5 Block.ty a0.Blocks)])), some (12, (tL 1 ls_SSI r6)), some (13, (pAt g1 1)), some (14, (tI a0.Regs)), none] ⟨Item.blk g2 66 [(Ty.val (.slice none 0 0)), (Ty.val (.slice none 0 0)), (tI 0)] :: Item.blk g1 27 [(tI a0.Params), (tI a0.Regs), (tL 5 Block.ty a0.Blocks)] :: ([] : List Item), Item.blk g2 66 [(Ty.val (.slice none 0 0)), (Ty.val (.slice none 0 0)), (tI 0)] :: Item.blk g1 27 [(tI a0.Params), (tI a0.Regs), (tL 5 Block.ty a0.Blocks)] :: ([] : List Item), []⟩ [5] mixed rfl rfl (by kernel_rfl) rfl (by kernel_rfl) rfl rfl rfl (fun _ h => List.Sublist.subset (.cons_cons _ (.cons_cons _ (List.nil_sublist _))) h) (fun _ h => List.Sublist.subset (.cons_cons _ (.cons_cons _ (List.nil_sublist _))) h) rfl (by kernel_rfl) (.inr ⟨by kernel_rfl, by kernel_rfl⟩) (by kernel_rfl) (by kernel_rfl) (dc (draw_plain rfl (does_loadBA [(tI a0.Params), (tI a0.Regs), (tL 5 Block.ty a0.Blocks)] Tryd.isAgg27 Tryd.sizeOf27 rfl 1 rfl rfl rfl)) (dc (draw_plain rfl (does_loadBA [(tI a0.Params), (tI a0.Regs), (tL 5 Block.ty a0.Blocks)] Tryd.isAgg27 Tryd.sizeOf27 rfl 1 rfl rfl rfl)) (dc (draw_plain rfl (does_call0 (c_regalloc_points K a0 r6 hc7) rfl Tryd.call91 rfl)) (dc (draw_plain rfl (does_fieldAddrP 1 Tryd.underlying27 rfl Tryd.sizeOf3 rfl rfl)) (dc (draw_plain rfl (does_loadB1 Tryd.isAgg3 rfl 1 rfl rfl)) (ds (dn))))))) ?_
    refine ch_step [5] rfl (ap_cons (ch_at _ rfl rfl (doesO_make (f := lB) el79 false l8 hm9 rfl rfl (part_one (one_val rfl)) (fun v10 => ?_))) (ap_nil))
    refine ⟨⟨(fun _ h => List.Sublist.subset (.cons _ (.cons_cons _ (.cons_cons _ (List.nil_sublist _)))) h), .inr (fun _ h => List.Sublist.subset (.cons _ (.cons_cons _ (.cons_cons _ (List.nil_sublist _)))) h)⟩, ?_⟩
    refine ch_end ?_
    change OkL _ _ _ _ [(10, (Ty.agg [(tI a0.Params), (tI a0.Regs), (tL 5 Block.ty a0.Blocks)])), (11, (Ty.agg [(tI a0.Params), (tI a0.Regs), (tL 5 Block.ty a0.Blocks)])), (12, (tL 1 ls_SSI r6)), (13, (pAt g1 1)), (14, (tI a0.Regs)), (15, (Ty.own v10)), (1, (pAt g1 0)), (2, (pAt g2 0))] (rowL v10 4 1 lB l8 :: Item.blk g2 66 [(Ty.val (.slice none 0 0)), (Ty.val (.slice none 0 0)), (tI 0)] :: Item.blk g1 27 [(tI a0.Params), (tI a0.Regs), (tL 5 Block.ty a0.Blocks)] :: L)
    refine okL_step 16 (Ty.agg [(tI a0.Params), (tI a0.Regs), (tL 5 Block.ty a0.Blocks), (tL 1 ls_SSI r6), (Ty.own v10), (Ty.val (.slice none 0 0)), (Ty.val (.slice none 0 0)), (tI 0)]) rfl rfl (does_build [(tI a0.Params), (tI a0.Regs), (tL 5 Block.ty a0.Blocks), (tL 1 ls_SSI r6), (Ty.own v10), (Ty.val (.slice none 0 0)), (Ty.val (.slice none 0 0)), (tI 0)] Tryd.zeroValue135 Tryd.underlying135 (places135 _ Tryd.underlying135) rfl (fc [(tI a0.Params), (tI a0.Regs), (tL 5 Block.ty a0.Blocks)] 0 rfl (part_agg _) rfl rfl (fc [(tL 1 ls_SSI r6)] 3 rfl (part_one (one_slice _ _)) rfl rfl (fc [(Ty.own v10)] 4 rfl (part_one (one_own _)) rfl rfl (fn_ rfl))))) ?_
    refine okL_stepO 17 rfl rfl (doesO_box [(tI a0.Params), (tI a0.Regs), (tL 5 Block.ty a0.Blocks), (tL 1 ls_SSI r6), (Ty.own v10), (Ty.val (.slice none 0 0)), (Ty.val (.slice none 0 0)), (tI 0)] rfl (part_agg _) (fun g11 => ?_))
    refine okL_step 4 (pAt g11 0) rfl rfl (does_assign rfl) ?_
    refine okL_nil ?_
    refine okX_next ?_
    refine okC_seq ?_
    refine okC_seq ?_
    refine okC_region ?_
    refine okL_step 18 (pAt g11 0) rfl rfl (does_move rfl) ?_
    refine okL_step 19 (pAt g11 0) rfl rfl (does_nilCheck rfl) ?_
    refine okL_step 20 (pAt g11 3) rfl rfl (does_fieldAddrP 3 Tryd.underlying135 rfl Tryd.sizeOf132 rfl rfl) ?_
    refine okL_step 21 (tL 1 ls_SSI r6) rfl rfl (does_loadB1 Tryd.isAgg132 rfl 0 rfl rfl) ?_
    obtain ⟨y12, hi13, h⟩ := bs h
    refine okL_step 22 (Ty.ptr [(tL 1 lIs y12)]) rfl rfl (does_index (sz := 1) (f := ls_SSI) (l := r6) (n := 0) y12 Tryd.underlying132 Tryd.sizeOf22 hi13 rfl rfl) ?_
    refine okL_step 23 (tL 1 lIs y12) rfl rfl (does_load1 Tryd.isAgg22 rfl) ?_
    obtain ⟨y14, hi15, h⟩ := bs h
    refine okL_step 24 (Ty.ptr [(tL 1 lI y14)]) rfl rfl (does_index (sz := 1) (f := lIs) (l := y12) (n := 0) y14 Tryd.underlying22 Tryd.sizeOf31 hi15 rfl rfl) ?_
    refine okL_step 25 (tL 1 lI y14) rfl rfl (does_load1 Tryd.isAgg31 rfl) ?_
    refine okL_step 26 (tI ((y14).length : Int)) rfl rfl (does_len (sz := 1) (f := lI) (l := y14) rfl Tryd.underlying31 rfl) ?_
    refine okL_step 27 (tB (decide (((y14).length : Int) > 0))) rfl rfl (does_gtr rfl rfl) ?_
    refine okL_nil ?_
    refine okX_next ?_
    refine okC_cond (b := (decide (((y14).length : Int) > 0))) rfl (fun hb16 => ?_) (fun hb16 => ?_)
    · replace h := ct hb16 h
      refine okC_seq ?_
      refine okC_region ?_
      refine okL_step 28 (Ty.agg [(Ty.val (.slice none 0 0)), (Ty.val (.slice none 0 0)), (tI 0)]) rfl rfl (does_build [(Ty.val (.slice none 0 0)), (Ty.val (.slice none 0 0)), (tI 0)] Tryd.zeroValue66 Tryd.underlying66 (places66 _ Tryd.underlying66) rfl (fn_ rfl)) ?_
      refine okL_stepU rfl (doesO_storeB (ps := [(Ty.val (.slice none 0 0)), (Ty.val (.slice none 0 0)), (tI 0)]) 2 [(Ty.val (.slice none 0 0)), (Ty.val (.slice none 0 0)), (tI 0)] (Item.blk g11 135 [(tI a0.Params), (tI a0.Regs), (tL 5 Block.ty a0.Blocks), (tL 1 ls_SSI r6), (Ty.own v10), (Ty.val (.slice none 0 0)), (Ty.val (.slice none 0 0)), (tI 0)] :: rowL v10 4 1 lB l8 :: Item.blk g2 66 [(Ty.val (.slice none 0 0)), (Ty.val (.slice none 0 0)), (tI 0)] :: Item.blk g1 27 [(tI a0.Params), (tI a0.Regs), (tL 5 Block.ty a0.Blocks)] :: L) rfl rfl (part_agg _) Tryd.sizeOf66 rfl rfl rfl rfl ?_)
      refine okL_step 3 (tI 205) rfl rfl (does_assign rfl) ?_
      refine okL_nil ?_
      refine okX_next ?_
      refine okC_ret ?_
      refine okX_then_ret ?_
      obtain rfl := (smh h).symm
      refine okX_blksub 2 [(tL 2 Location.ty []), (tL 5 Spill.ty []), (tI 0)] (Item.blk g11 135 [(tI a0.Params), (tI a0.Regs), (tL 5 Block.ty a0.Blocks), (tL 1 ls_SSI r6), (Ty.own v10), (Ty.val (.slice none 0 0)), (Ty.val (.slice none 0 0)), (tI 0)] :: rowL v10 4 1 lB l8 :: Item.blk g2 66 [(tL 2 Location.ty []), (tL 5 Spill.ty []), (tI 0)] :: Item.blk g1 27 [(tI a0.Params), (tI a0.Regs), (tL 5 Block.ty a0.Blocks)] :: L) rfl (.cons (sub_nil _) (.cons (sub_nil _) (.cons (sub_refl _) SubL.nil))) rfl ?_
      exact okX_retCT () Tryd.results50 rfl rfl 2 rfl Tryd.isAgg66 Tryd.sizeOf66 rfl rfl [Item.blk g11 135 [(tI a0.Params), (tI a0.Regs), (tL 5 Block.ty a0.Blocks), (tL 1 ls_SSI r6), (Ty.own v10), (Ty.val (.slice none 0 0)), (Ty.val (.slice none 0 0)), (tI 0)], rowL v10 4 1 lB l8, Item.blk g2 66 [(tL 2 Location.ty []), (tL 5 Spill.ty []), (tI 0)], Item.blk g1 27 [(tI a0.Params), (tI a0.Regs), (tL 5 Block.ty a0.Blocks)]] (pm 0 rfl (pm 0 rfl (pm 0 rfl (pm 0 rfl (pr _)))))
    · replace h := cf hb16 h
      refine okC_skip ?_
      refine okX_next ?_
      refine okC_seq ?_
      refine okC_region ?_
      refine okL_step 29 (pAt g11 0) rfl rfl (does_move rfl) ?_
      refine okL_step 30 (pAt g1 1) rfl rfl (does_fieldAddrP 1 Tryd.underlying27 rfl Tryd.sizeOf3 rfl rfl) ?_
      refine okL_step 31 (tI a0.Regs) rfl rfl (does_loadB1 Tryd.isAgg3 rfl 3 rfl rfl) ?_
      obtain ⟨l17, hm18, h⟩ := bs h
      refine okL_stepO 32 rfl rfl (doesO_make (f := Location.ty) el63 (⟨false, 0⟩ : Location) l17 hm18 rfl rfl (part_of (sub_agg [(.bool false), (.int .i64 0)] rfl) (part_agg _)) (fun v19 => ?_))
      refine okL_step 33 (pAt g11 0) rfl rfl (does_nilCheck rfl) ?_
      refine okL_step 34 (pAt g11 5) rfl rfl (does_fieldAddrP 5 Tryd.underlying135 rfl Tryd.sizeOf66 rfl rfl) ?_
      refine okL_step 35 (pAt g11 5) rfl rfl (does_fieldAddrP 5 Tryd.underlying66 rfl Tryd.sizeOf63 rfl rfl) ?_
      refine okL_stepU rfl (doesO_storeB (ps := [(Ty.own v19)]) 1 [(tI a0.Params), (tI a0.Regs), (tL 5 Block.ty a0.Blocks), (tL 1 ls_SSI r6), (Ty.own v10), (Ty.own v19), (Ty.val (.slice none 0 0)), (tI 0)] (rowL v19 72 2 Location.ty l17 :: Item.blk g11 135 [(tI a0.Params), (tI a0.Regs), (tL 5 Block.ty a0.Blocks), (tL 1 ls_SSI r6), (Ty.own v10), (Ty.own v19), (Ty.val (.slice none 0 0)), (tI 0)] :: rowL v10 4 1 lB l8 :: Item.blk g2 66 [(Ty.val (.slice none 0 0)), (Ty.val (.slice none 0 0)), (tI 0)] :: Item.blk g1 27 [(tI a0.Params), (tI a0.Regs), (tL 5 Block.ty a0.Blocks)] :: L) rfl rfl (part_one (one_own _)) Tryd.sizeOf63 rfl rfl rfl rfl ?_)
      refine okL_nil ?_
      refine okX_next ?_
      refine okC_seq ?_
      refine okC_region ?_
      refine okL_step 36 (pAt g11 0) rfl rfl (does_move rfl) ?_
      refine okL_nilrowB (sz := 5) Spill.ty 76 1 6 [(tI a0.Params), (tI a0.Regs), (tL 5 Block.ty a0.Blocks), (tL 1 ls_SSI r6), (Ty.own v10), (Ty.own v19), (Ty.own (.slice none 0 0)), (tI 0)] (rowL (.slice none 0 0) 76 5 Spill.ty ([] : List Spill) :: rowL v19 72 2 Location.ty l17 :: Item.blk g11 135 [(tI a0.Params), (tI a0.Regs), (tL 5 Block.ty a0.Blocks), (tL 1 ls_SSI r6), (Ty.own v10), (Ty.own v19), (Ty.own (.slice none 0 0)), (tI 0)] :: rowL v10 4 1 lB l8 :: Item.blk g2 66 [(Ty.val (.slice none 0 0)), (Ty.val (.slice none 0 0)), (tI 0)] :: Item.blk g1 27 [(tI a0.Params), (tI a0.Regs), (tL 5 Block.ty a0.Blocks)] :: L) rfl rfl rfl rfl ?_
      obtain ⟨r20, hc21, h⟩ := bs h
      refine okL_stepO 37 rfl rfl (doesO_call0 (Item.blk g2 66 [(Ty.val (.slice none 0 0)), (Ty.val (.slice none 0 0)), (tI 0)] :: Item.blk g1 27 [(tI a0.Params), (tI a0.Regs), (tL 5 Block.ty a0.Blocks)] :: L) (c_regalloc_allocator_spillAcrossCalls K (⟨a0, r6, l8, (⟨l17, ([] : List Spill), 0⟩ : Allocation)⟩ : RegallocAllocator) g11 v10 v19 (.slice none 0 0) r20 hc21) rfl Tryd.call92 rfl (pm 2 rfl (pm 2 rfl (pm 1 rfl (pm 0 rfl (pr _))))) (fun v22 => ?_))
      refine okL_nil ?_
      refine okX_next ?_
      refine okC_seq ?_
      refine okC_region ?_
      refine okL_step 38 (pAt g11 0) rfl rfl (does_move rfl) ?_
      obtain ⟨r23, hc24, h⟩ := bs h
      refine okL_stepO 39 rfl rfl (doesO_call0 (Item.blk g2 66 [(Ty.val (.slice none 0 0)), (Ty.val (.slice none 0 0)), (tI 0)] :: Item.blk g1 27 [(tI a0.Params), (tI a0.Regs), (tL 5 Block.ty a0.Blocks)] :: L) (c_regalloc_allocator_reducePressure K r20 g11 v10 v19 v22 r23 hc24) rfl Tryd.call93 rfl (pm 0 rfl (pm 0 rfl (pm 0 rfl (pm 0 rfl (pr _))))) (fun v25 => ?_))
      refine okL_nil ?_
      refine okX_next ?_
      refine okC_seq ?_
      refine okC_region ?_
      refine okL_step 40 (pAt g11 0) rfl rfl (does_move rfl) ?_
      obtain ⟨r26, hc27, h⟩ := bs h
      refine okL_stepO 41 rfl rfl (doesO_call0 (Item.blk g2 66 [(Ty.val (.slice none 0 0)), (Ty.val (.slice none 0 0)), (tI 0)] :: Item.blk g1 27 [(tI a0.Params), (tI a0.Regs), (tL 5 Block.ty a0.Blocks)] :: L) (c_regalloc_allocator_color K r23 g11 v10 v19 v25 r26 hc27) rfl Tryd.call94 rfl (pm 0 rfl (pm 0 rfl (pm 0 rfl (pm 0 rfl (pr _))))) (fun v28 => ?_))
      refine okL_nil ?_
      refine okX_next ?_
      refine okC_seq ?_
      refine okC_region ?_
      refine okL_step 42 (pAt g11 0) rfl rfl (does_move rfl) ?_
      refine okL_step 43 (pAt g1 0) rfl rfl (does_fieldAddrP 0 Tryd.underlying27 rfl Tryd.sizeOf3 rfl rfl) ?_
      refine okL_step 44 (tI a0.Params) rfl rfl (does_loadB1 Tryd.isAgg3 rfl 5 rfl rfl) ?_
      refine okL_step 45 (pAt g11 0) rfl rfl (does_nilCheck rfl) ?_
      refine okL_step 46 (pAt g11 5) rfl rfl (does_fieldAddrP 5 Tryd.underlying135 rfl Tryd.sizeOf66 rfl rfl) ?_
      refine okL_step 47 (pAt g11 7) rfl rfl (does_fieldAddrP 7 Tryd.underlying66 rfl Tryd.sizeOf3 rfl rfl) ?_
      refine okL_stepU rfl (doesO_storeB (ps := [(tI a0.Params)]) 0 [(tI r26.c.Params), (tI r26.c.Regs), (tL 5 Block.ty r26.c.Blocks), (tL 1 ls_SSI r26.at_), (Ty.own v10), (Ty.own v19), (Ty.own v28), (tI a0.Params)] (Item.blk g11 135 [(tI r26.c.Params), (tI r26.c.Regs), (tL 5 Block.ty r26.c.Blocks), (tL 1 ls_SSI r26.at_), (Ty.own v10), (Ty.own v19), (Ty.own v28), (tI a0.Params)] :: rowL v10 4 1 lB r26.spilled :: rowL v19 72 2 Location.ty r26.a.Locations :: rowL v28 76 5 Spill.ty r26.a.Spills :: Item.blk g2 66 [(Ty.val (.slice none 0 0)), (Ty.val (.slice none 0 0)), (tI 0)] :: Item.blk g1 27 [(tI a0.Params), (tI a0.Regs), (tL 5 Block.ty a0.Blocks)] :: L) rfl rfl (part_one (one_i _)) Tryd.sizeOf3 rfl rfl rfl rfl ?_)
      refine okL_nil ?_
      refine okX_next ?_
      refine okC_seq ?_
      refine okC_seq ?_
      refine okC_region ?_
      refine okL_step 48 (pAt g11 0) rfl rfl (does_move rfl) ?_
      refine okL_step 49 (pAt g11 0) rfl rfl (does_nilCheck rfl) ?_
      refine okL_step 50 (pAt g11 5) rfl rfl (does_fieldAddrP 5 Tryd.underlying135 rfl Tryd.sizeOf66 rfl rfl) ?_
      refine okL_step 51 (pAt g11 5) rfl rfl (does_fieldAddrP 5 Tryd.underlying66 rfl Tryd.sizeOf63 rfl rfl) ?_
      refine okL_step 52 (Ty.own v19) rfl rfl (does_loadB1 Tryd.isAgg63 rfl 0 rfl rfl) ?_
      refine okL_step 53 (tI ((r26.a.Locations).length : Int)) rfl rfl (does_lenR rfl Tryd.underlying63 2 rfl rfl) ?_
      refine okL_step 54 (tI 0) rfl rfl (does_move rfl) ?_
      refine okL_nil ?_
      refine okX_next ?_
      obtain ⟨z31, h33, hz32⟩ := bs h
      refine okC_meetE (X := (Int × (List Location))) (fun x => z31 = x) (fun x : (Int × (List Location)) => [(2, (pAt g2 0)), (4, (pAt g11 0))]) (fun x : (Int × (List Location)) => Item.blk g11 135 [(tI r26.c.Params), (tI r26.c.Regs), (tL 5 Block.ty r26.c.Blocks), (tL 1 ls_SSI r26.at_), (Ty.own v10), (Ty.own v19), (Ty.own v28), (tI x.1)] :: rowL v10 4 1 lB r26.spilled :: rowL v19 72 2 Location.ty x.2 :: rowL v28 76 5 Spill.ty r26.a.Spills :: Item.blk g2 66 [(Ty.val (.slice none 0 0)), (Ty.val (.slice none 0 0)), (tI 0)] :: Item.blk g1 27 [(tI a0.Params), (tI a0.Regs), (tL 5 Block.ty a0.Blocks)] :: L) ?_ ?_
      · refine okC_block ?_
        refine okC_loop (X := (Int × Int × (List Location))) (fun k x => regalloc_Allocate_l1 K r26 k x = some z31) (fun x : (Int × Int × (List Location)) => [(2, (pAt g2 0)), (4, (pAt g11 0)), (53, (tI ((r26.a.Locations).length : Int))), (54, (tI x.1))]) (fun x : (Int × Int × (List Location)) => Item.blk g11 135 [(tI r26.c.Params), (tI r26.c.Regs), (tL 5 Block.ty r26.c.Blocks), (tL 1 ls_SSI r26.at_), (Ty.own v10), (Ty.own v19), (Ty.own v28), (tI x.2.1)] :: rowL v10 4 1 lB r26.spilled :: rowL v19 72 2 Location.ty x.2.2 :: rowL v28 76 5 Spill.ty r26.a.Spills :: Item.blk g2 66 [(Ty.val (.slice none 0 0)), (Ty.val (.slice none 0 0)), (tI 0)] :: Item.blk g1 27 [(tI a0.Params), (tI a0.Regs), (tL 5 Block.ty a0.Blocks)] :: L) K (0, a0.Params, r26.a.Locations) h33 (cc rfl (cc rfl (cc rfl (cc rfl cn)))) rfl (fun k s34 hI => ?_)
        change OkC _ _ _ [(2, (pAt g2 0)), (4, (pAt g11 0)), (53, (tI ((r26.a.Locations).length : Int))), (54, (tI s34.1))] (Item.blk g11 135 [(tI r26.c.Params), (tI r26.c.Regs), (tL 5 Block.ty r26.c.Blocks), (tL 1 ls_SSI r26.at_), (Ty.own v10), (Ty.own v19), (Ty.own v28), (tI s34.2.1)] :: rowL v10 4 1 lB r26.spilled :: rowL v19 72 2 Location.ty s34.2.2 :: rowL v28 76 5 Spill.ty r26.a.Spills :: Item.blk g2 66 [(Ty.val (.slice none 0 0)), (Ty.val (.slice none 0 0)), (tI 0)] :: Item.blk g1 27 [(tI a0.Params), (tI a0.Regs), (tL 5 Block.ty a0.Blocks)] :: L)
        cases k with
        | zero => exact (nz hI).elim
        | succ k =>
          have h : regalloc_Allocate_l1 K r26 (k + 1) s34 = some z31 := hI
          rw [regalloc_Allocate_l1.eq_2] at h
          refine okC_seq ?_
          refine okC_region ?_
          refine okL_step 55 (tB (decide (s34.1 < ((r26.a.Locations).length : Int)))) rfl rfl (does_lss rfl rfl) ?_
          refine okL_nil ?_
          refine okX_next ?_
          refine okC_seq ?_
          refine okC_cond (b := (decide (s34.1 < ((r26.a.Locations).length : Int)))) rfl (fun hb36 => ?_) (fun hb36 => ?_)
          · replace h := ct hb36 h
            refine okC_skip ?_
            refine okX_next ?_
            obtain ⟨z39, h41, hz40⟩ := bs h
            refine okC_meet (X := (Int × (List Location))) (fun x => z39 = x) (fun x : (Int × (List Location)) => [(2, (pAt g2 0)), (4, (pAt g11 0)), (53, (tI ((r26.a.Locations).length : Int))), (54, (tI s34.1))]) (fun x : (Int × (List Location)) => Item.blk g11 135 [(tI r26.c.Params), (tI r26.c.Regs), (tL 5 Block.ty r26.c.Blocks), (tL 1 ls_SSI r26.at_), (Ty.own v10), (Ty.own v19), (Ty.own v28), (tI x.1)] :: rowL v10 4 1 lB r26.spilled :: rowL v19 72 2 Location.ty x.2 :: rowL v28 76 5 Spill.ty r26.a.Spills :: Item.blk g2 66 [(Ty.val (.slice none 0 0)), (Ty.val (.slice none 0 0)), (tI 0)] :: Item.blk g1 27 [(tI a0.Params), (tI a0.Regs), (tL 5 Block.ty a0.Blocks)] :: L) ?_ ?_
            · refine okC_block ?_
              refine okC_seq ?_
              refine okC_region ?_
              refine okL_step 56 (tI s34.1) rfl rfl (does_move rfl) ?_
              refine okL_step 5 (tI s34.1) rfl rfl (does_assign rfl) ?_
              refine okL_nil ?_
              refine okX_next ?_
              refine okC_seq ?_
              refine okC_region ?_
              refine okL_step 57 (pAt g11 0) rfl rfl (does_move rfl) ?_
              refine okL_step 58 (pAt g11 0) rfl rfl (does_nilCheck rfl) ?_
              refine okL_step 59 (pAt g11 4) rfl rfl (does_fieldAddrP 4 Tryd.underlying135 rfl Tryd.sizeOf79 rfl rfl) ?_
              refine okL_step 60 (Ty.own v10) rfl rfl (does_loadB1 Tryd.isAgg79 rfl 0 rfl rfl) ?_
              refine okL_step 61 (tI s34.1) rfl rfl (does_move rfl) ?_
              obtain ⟨y42, hi43, h41⟩ := bs h41
              refine okL_step 62 (Ty.rptr v10 (s34.1.toNat * 1)) rfl rfl (does_indexR (f := lB) (l := r26.spilled) (m := s34.1) el79 1 y42 hi43 rfl rfl rfl) ?_
              refine okL_step 63 (tB y42) rfl rfl (does_loadR1 (sz := 1) (f := lB) (l := r26.spilled) 1 y42 0 Tryd.isAgg4 hi43 rfl rfl rfl) ?_
              refine okL_nil ?_
              refine okX_next ?_
              refine okC_cond (b := y42) rfl (fun hb44 => ?_) (fun hb44 => ?_)
              · replace h41 := ct hb44 h41
                refine okC_seq ?_
                refine okC_cov [(2, (pAt g2 0)), (4, (pAt g11 0)), (5, (tI s34.1)), (53, (tI ((r26.a.Locations).length : Int))), (54, (tI s34.1))] (cc rfl (cc rfl (cc rfl (cc rfl (cc rfl cn))))) ?_
                refine okC_draw 12 [some (64, (pAt g11 0)), some (65, (pAt g11 0)), some (66, (pAt g11 5)), some (67, (pAt g11 5)), some (68, (Ty.own v19)), some (69, (tI s34.1)), some (70, (pAt g11 0)), some (71, (pAt g11 0)), some (72, (pAt g11 5)), some (73, (pAt g11 7)), some (74, (tI s34.2.1)), some (75, (Ty.agg [(tB true), (tI s34.2.1)]))] ⟨Item.blk g11 135 [(tI r26.c.Params), (tI r26.c.Regs), (tL 5 Block.ty r26.c.Blocks), (tL 1 ls_SSI r26.at_), (Ty.own v10), (Ty.own v19), (Ty.own v28), (tI s34.2.1)] :: rowL v10 4 1 lB r26.spilled :: rowL v19 72 2 Location.ty s34.2.2 :: rowL v28 76 5 Spill.ty r26.a.Spills :: Item.blk g2 66 [(Ty.val (.slice none 0 0)), (Ty.val (.slice none 0 0)), (tI 0)] :: Item.blk g1 27 [(tI a0.Params), (tI a0.Regs), (tL 5 Block.ty a0.Blocks)] :: ([] : List Item), Item.blk g11 135 [(tI r26.c.Params), (tI r26.c.Regs), (tL 5 Block.ty r26.c.Blocks), (tL 1 ls_SSI r26.at_), (Ty.own v10), (Ty.own v19), (Ty.own v28), (tI s34.2.1)] :: rowL v10 4 1 lB r26.spilled :: rowL v19 72 2 Location.ty s34.2.2 :: rowL v28 76 5 Spill.ty r26.a.Spills :: Item.blk g2 66 [(Ty.val (.slice none 0 0)), (Ty.val (.slice none 0 0)), (tI 0)] :: Item.blk g1 27 [(tI a0.Params), (tI a0.Regs), (tL 5 Block.ty a0.Blocks)] :: ([] : List Item), []⟩ [] mixed rfl rfl (by kernel_rfl) rfl (by kernel_rfl) rfl rfl rfl (fun _ h => List.Sublist.subset (.cons_cons _ (.cons_cons _ (.cons_cons _ (.cons_cons _ (.cons_cons _ (.cons_cons _ (List.nil_sublist _))))))) h) (fun _ h => List.Sublist.subset (.cons_cons _ (.cons_cons _ (.cons_cons _ (.cons_cons _ (.cons_cons _ (.cons_cons _ (List.nil_sublist _))))))) h) rfl (by kernel_rfl) (.inr ⟨by kernel_rfl, by kernel_rfl⟩) (by kernel_rfl) (by kernel_rfl) (dc (draw_plain rfl (does_move rfl)) (dc (draw_plain rfl (does_nilCheck rfl)) (dc (draw_plain rfl (does_fieldAddrP 5 Tryd.underlying135 rfl Tryd.sizeOf66 rfl rfl)) (dc (draw_plain rfl (does_fieldAddrP 5 Tryd.underlying66 rfl Tryd.sizeOf63 rfl rfl)) (dc (draw_plain rfl (does_loadB1 Tryd.isAgg63 rfl 0 rfl rfl)) (dc (draw_plain rfl (does_move rfl)) (dc (draw_plain rfl (does_move rfl)) (dc (draw_plain rfl (does_nilCheck rfl)) (dc (draw_plain rfl (does_fieldAddrP 5 Tryd.underlying135 rfl Tryd.sizeOf66 rfl rfl)) (dc (draw_plain rfl (does_fieldAddrP 7 Tryd.underlying66 rfl Tryd.sizeOf3 rfl rfl)) (dc (draw_plain rfl (does_loadB1 Tryd.isAgg3 rfl 0 rfl rfl)) (dc (draw_plain rfl (does_build [(tB true), (tI s34.2.1)] Tryd.zeroValue72 Tryd.underlying72 (places72 _ Tryd.underlying72) rfl (fc [(tB true)] 0 rfl (part_one (one_b _)) rfl rfl (fc [(tI s34.2.1)] 1 rfl (part_one (one_i _)) rfl rfl (fn_ rfl))))) (dn))))))))))))) ?_
                refine ch_end ?_
                change OkL _ _ _ _ [(64, (pAt g11 0)), (65, (pAt g11 0)), (66, (pAt g11 5)), (67, (pAt g11 5)), (68, (Ty.own v19)), (69, (tI s34.1)), (70, (pAt g11 0)), (71, (pAt g11 0)), (72, (pAt g11 5)), (73, (pAt g11 7)), (74, (tI s34.2.1)), (75, (Ty.agg [(tB true), (tI s34.2.1)])), (2, (pAt g2 0)), (4, (pAt g11 0)), (5, (tI s34.1)), (53, (tI ((r26.a.Locations).length : Int))), (54, (tI s34.1))] (Item.blk g11 135 [(tI r26.c.Params), (tI r26.c.Regs), (tL 5 Block.ty r26.c.Blocks), (tL 1 ls_SSI r26.at_), (Ty.own v10), (Ty.own v19), (Ty.own v28), (tI s34.2.1)] :: rowL v10 4 1 lB r26.spilled :: rowL v19 72 2 Location.ty s34.2.2 :: rowL v28 76 5 Spill.ty r26.a.Spills :: Item.blk g2 66 [(Ty.val (.slice none 0 0)), (Ty.val (.slice none 0 0)), (tI 0)] :: Item.blk g1 27 [(tI a0.Params), (tI a0.Regs), (tL 5 Block.ty a0.Blocks)] :: L)
                obtain ⟨y45, hi46, h41⟩ := bs h41
                refine okL_step 76 (Ty.rptr v19 (s34.1.toNat * 2)) rfl rfl (does_indexR (f := Location.ty) (l := s34.2.2) (m := s34.1) el63 2 y45 hi46 rfl rfl rfl) ?_
                refine okL_stepU rfl (doesO_storeR (f := Location.ty) (l := s34.2.2) (sz := 2) (ps := [(tB true), (tI s34.2.1)]) (y0 := y45) (y1 := (⟨true, s34.2.1⟩ : Location)) (m := s34.1) 2 0 (s34.2.2.set s34.1.toNat (⟨true, s34.2.1⟩ : Location)) (Item.blk g11 135 [(tI r26.c.Params), (tI r26.c.Regs), (tL 5 Block.ty r26.c.Blocks), (tL 1 ls_SSI r26.at_), (Ty.own v10), (Ty.own v19), (Ty.own v28), (tI s34.2.1)] :: rowL v10 4 1 lB r26.spilled :: rowL v19 72 2 Location.ty (s34.2.2.set s34.1.toNat (⟨true, s34.2.1⟩ : Location)) :: rowL v28 76 5 Spill.ty r26.a.Spills :: Item.blk g2 66 [(Ty.val (.slice none 0 0)), (Ty.val (.slice none 0 0)), (tI 0)] :: Item.blk g1 27 [(tI a0.Params), (tI a0.Regs), (tL 5 Block.ty a0.Blocks)] :: L) rfl rfl (part_agg _) Tryd.sizeOf72 rfl hi46 rfl rfl rfl rfl rfl ?_)
                refine okL_nil ?_
                refine okX_next ?_
                refine okC_region ?_
                refine okL_step 77 (pAt g11 0) rfl rfl (does_move rfl) ?_
                refine okL_step 78 (pAt g11 0) rfl rfl (does_nilCheck rfl) ?_
                refine okL_step 79 (pAt g11 5) rfl rfl (does_fieldAddrP 5 Tryd.underlying135 rfl Tryd.sizeOf66 rfl rfl) ?_
                refine okL_step 80 (pAt g11 7) rfl rfl (does_fieldAddrP 7 Tryd.underlying66 rfl Tryd.sizeOf3 rfl rfl) ?_
                refine okL_step 81 (tI s34.2.1) rfl rfl (does_loadB1 Tryd.isAgg3 rfl 0 rfl rfl) ?_
                refine okL_step 82 (tI (w64 (s34.2.1 + 1))) rfl rfl (does_add rfl rfl) ?_
                refine okL_step 83 (pAt g11 0) rfl rfl (does_nilCheck rfl) ?_
                refine okL_step 84 (pAt g11 5) rfl rfl (does_fieldAddrP 5 Tryd.underlying135 rfl Tryd.sizeOf66 rfl rfl) ?_
                refine okL_step 85 (pAt g11 7) rfl rfl (does_fieldAddrP 7 Tryd.underlying66 rfl Tryd.sizeOf3 rfl rfl) ?_
                refine okL_stepU rfl (doesO_storeB (ps := [(tI (w64 (s34.2.1 + 1)))]) 0 [(tI r26.c.Params), (tI r26.c.Regs), (tL 5 Block.ty r26.c.Blocks), (tL 1 ls_SSI r26.at_), (Ty.own v10), (Ty.own v19), (Ty.own v28), (tI (w64 (s34.2.1 + 1)))] (Item.blk g11 135 [(tI r26.c.Params), (tI r26.c.Regs), (tL 5 Block.ty r26.c.Blocks), (tL 1 ls_SSI r26.at_), (Ty.own v10), (Ty.own v19), (Ty.own v28), (tI (w64 (s34.2.1 + 1)))] :: rowL v10 4 1 lB r26.spilled :: rowL v19 72 2 Location.ty (s34.2.2.set s34.1.toNat (⟨true, s34.2.1⟩ : Location)) :: rowL v28 76 5 Spill.ty r26.a.Spills :: Item.blk g2 66 [(Ty.val (.slice none 0 0)), (Ty.val (.slice none 0 0)), (tI 0)] :: Item.blk g1 27 [(tI a0.Params), (tI a0.Regs), (tL 5 Block.ty a0.Blocks)] :: L) rfl rfl (part_one (one_i _)) Tryd.sizeOf3 rfl rfl rfl rfl ?_)
                refine okL_nil ?_
                refine okX_block_normal ?_
                exact okX_meet (I := _) ((w64 (s34.2.1 + 1)), (s34.2.2.set s34.1.toNat (⟨true, s34.2.1⟩ : Location))) (smh h41) (cc rfl (cc rfl (cc rfl (cc rfl cn)))) rfl
              · replace h41 := cf hb44 h41
                refine okC_skip ?_
                refine okX_block_normal ?_
                exact okX_meet (I := _) (s34.2.1, s34.2.2) (smh h41) (cc rfl (cc rfl (cc rfl (cc rfl cn)))) rfl
            · intro s37 hx
              change OkC _ _ _ [(2, (pAt g2 0)), (4, (pAt g11 0)), (53, (tI ((r26.a.Locations).length : Int))), (54, (tI s34.1))] (Item.blk g11 135 [(tI r26.c.Params), (tI r26.c.Regs), (tL 5 Block.ty r26.c.Blocks), (tL 1 ls_SSI r26.at_), (Ty.own v10), (Ty.own v19), (Ty.own v28), (tI s37.1)] :: rowL v10 4 1 lB r26.spilled :: rowL v19 72 2 Location.ty s37.2 :: rowL v28 76 5 Spill.ty r26.a.Spills :: Item.blk g2 66 [(Ty.val (.slice none 0 0)), (Ty.val (.slice none 0 0)), (tI 0)] :: Item.blk g1 27 [(tI a0.Params), (tI a0.Regs), (tL 5 Block.ty a0.Blocks)] :: L)
              obtain rfl : s37 = z39 := hx.symm
              replace h := hz40
              refine okC_region ?_
              refine okL_step 86 (tI (w64 (s34.1 + 1))) rfl rfl (does_add rfl rfl) ?_
              refine okL_step 54 (tI (w64 (s34.1 + 1))) rfl rfl (does_move rfl) ?_
              refine okL_nil ?_
              exact okX_again k (Nat.lt_succ_self k) ((w64 (s34.1 + 1)), s37.1, s37.2) h (cc rfl (cc rfl (cc rfl (cc rfl cn)))) rfl
          · replace h := cf hb36 h
            refine okC_exit ?_
            refine okX_then_exit ?_
            refine okX_again_exit ?_
            refine okX_block_hit ?_
            exact okX_meet (I := _) (s34.2.1, s34.2.2) (smh h) (cc rfl (cc rfl cn)) rfl
      · intro s29 hx
        change OkX _ _ _ [(2, (pAt g2 0)), (4, (pAt g11 0))] (Item.blk g11 135 [(tI r26.c.Params), (tI r26.c.Regs), (tL 5 Block.ty r26.c.Blocks), (tL 1 ls_SSI r26.at_), (Ty.own v10), (Ty.own v19), (Ty.own v28), (tI s29.1)] :: rowL v10 4 1 lB r26.spilled :: rowL v19 72 2 Location.ty s29.2 :: rowL v28 76 5 Spill.ty r26.a.Spills :: Item.blk g2 66 [(Ty.val (.slice none 0 0)), (Ty.val (.slice none 0 0)), (tI 0)] :: Item.blk g1 27 [(tI a0.Params), (tI a0.Regs), (tL 5 Block.ty a0.Blocks)] :: L)
        obtain rfl : s29 = z31 := hx.symm
        replace h := hz32
        refine okX_next ?_
        refine okC_seq ?_
        refine okC_seq ?_
        refine okC_region ?_
        refine okL_step 87 (pAt g11 0) rfl rfl (does_move rfl) ?_
        refine okL_step 88 (pAt g11 0) rfl rfl (does_nilCheck rfl) ?_
        refine okL_step 89 (pAt g11 5) rfl rfl (does_fieldAddrP 5 Tryd.underlying135 rfl Tryd.sizeOf66 rfl rfl) ?_
        refine okL_step 90 (pAt g11 7) rfl rfl (does_fieldAddrP 7 Tryd.underlying66 rfl Tryd.sizeOf3 rfl rfl) ?_
        refine okL_step 91 (tI s29.1) rfl rfl (does_loadB1 Tryd.isAgg3 rfl 0 rfl rfl) ?_
        refine okL_step 92 (tB (decide (s29.1 > 3000))) rfl rfl (does_gtr rfl rfl) ?_
        refine okL_nil ?_
        refine okX_next ?_
        refine okC_cond (b := (decide (s29.1 > 3000))) rfl (fun hb47 => ?_) (fun hb47 => ?_)
        · replace h := ct hb47 h
          refine okC_seq ?_
          refine okC_region ?_
          refine okL_step 93 (Ty.agg [(Ty.val (.slice none 0 0)), (Ty.val (.slice none 0 0)), (tI 0)]) rfl rfl (does_build [(Ty.val (.slice none 0 0)), (Ty.val (.slice none 0 0)), (tI 0)] Tryd.zeroValue66 Tryd.underlying66 (places66 _ Tryd.underlying66) rfl (fn_ rfl)) ?_
          refine okL_stepU rfl (doesO_storeB (ps := [(Ty.val (.slice none 0 0)), (Ty.val (.slice none 0 0)), (tI 0)]) 4 [(Ty.val (.slice none 0 0)), (Ty.val (.slice none 0 0)), (tI 0)] (Item.blk g11 135 [(tI r26.c.Params), (tI r26.c.Regs), (tL 5 Block.ty r26.c.Blocks), (tL 1 ls_SSI r26.at_), (Ty.own v10), (Ty.own v19), (Ty.own v28), (tI s29.1)] :: rowL v10 4 1 lB r26.spilled :: rowL v19 72 2 Location.ty s29.2 :: rowL v28 76 5 Spill.ty r26.a.Spills :: Item.blk g2 66 [(Ty.val (.slice none 0 0)), (Ty.val (.slice none 0 0)), (tI 0)] :: Item.blk g1 27 [(tI a0.Params), (tI a0.Regs), (tL 5 Block.ty a0.Blocks)] :: L) rfl rfl (part_agg _) Tryd.sizeOf66 rfl rfl rfl rfl ?_)
          refine okL_step 3 (tI 6) rfl rfl (does_assign rfl) ?_
          refine okL_nil ?_
          refine okX_next ?_
          refine okC_ret ?_
          refine okX_then_ret ?_
          obtain rfl := (smh h).symm
          refine okX_blksub 4 [(tL 2 Location.ty []), (tL 5 Spill.ty []), (tI 0)] (Item.blk g11 135 [(tI r26.c.Params), (tI r26.c.Regs), (tL 5 Block.ty r26.c.Blocks), (tL 1 ls_SSI r26.at_), (Ty.own v10), (Ty.own v19), (Ty.own v28), (tI s29.1)] :: rowL v10 4 1 lB r26.spilled :: rowL v19 72 2 Location.ty s29.2 :: rowL v28 76 5 Spill.ty r26.a.Spills :: Item.blk g2 66 [(tL 2 Location.ty []), (tL 5 Spill.ty []), (tI 0)] :: Item.blk g1 27 [(tI a0.Params), (tI a0.Regs), (tL 5 Block.ty a0.Blocks)] :: L) rfl (.cons (sub_nil _) (.cons (sub_nil _) (.cons (sub_refl _) SubL.nil))) rfl ?_
          exact okX_retCT () Tryd.results50 rfl rfl 4 rfl Tryd.isAgg66 Tryd.sizeOf66 rfl rfl [Item.blk g11 135 [(tI r26.c.Params), (tI r26.c.Regs), (tL 5 Block.ty r26.c.Blocks), (tL 1 ls_SSI r26.at_), (Ty.own v10), (Ty.own v19), (Ty.own v28), (tI s29.1)], rowL v10 4 1 lB r26.spilled, rowL v19 72 2 Location.ty s29.2, rowL v28 76 5 Spill.ty r26.a.Spills, Item.blk g2 66 [(tL 2 Location.ty []), (tL 5 Spill.ty []), (tI 0)], Item.blk g1 27 [(tI a0.Params), (tI a0.Regs), (tL 5 Block.ty a0.Blocks)]] (pm 0 rfl (pm 0 rfl (pm 0 rfl (pm 0 rfl (pm 0 rfl (pm 0 rfl (pr _)))))))
        · replace h := cf hb47 h
          refine okC_skip ?_
          refine okX_next ?_
          refine okC_seq ?_
          refine okC_region ?_
          refine okL_step 94 (pAt g11 0) rfl rfl (does_move rfl) ?_
          refine okL_step 95 (pAt g11 0) rfl rfl (does_nilCheck rfl) ?_
          refine okL_step 96 (pAt g11 5) rfl rfl (does_fieldAddrP 5 Tryd.underlying135 rfl Tryd.sizeOf66 rfl rfl) ?_
          refine okL_publishB 5 [] [(tI r26.c.Params), (tI r26.c.Regs), (tL 5 Block.ty r26.c.Blocks), (tL 1 ls_SSI r26.at_), (Ty.own v10), (tL 2 Location.ty s29.2), (Ty.own v28), (tI s29.1)] (pm 2 rfl (pm 0 rfl (pr _))) rfl an rfl ?_
          refine okL_publishB 6 [] [(tI r26.c.Params), (tI r26.c.Regs), (tL 5 Block.ty r26.c.Blocks), (tL 1 ls_SSI r26.at_), (Ty.own v10), (tL 2 Location.ty s29.2), (tL 5 Spill.ty r26.a.Spills), (tI s29.1)] (pm 2 rfl (pm 0 rfl (pr _))) rfl an rfl ?_
          refine okL_step 97 (Ty.agg [(tL 2 Location.ty s29.2), (tL 5 Spill.ty r26.a.Spills), (tI s29.1)]) rfl rfl (does_loadBA [(tL 2 Location.ty s29.2), (tL 5 Spill.ty r26.a.Spills), (tI s29.1)] Tryd.isAgg66 Tryd.sizeOf66 rfl 0 rfl rfl rfl) ?_
          refine okL_stepU rfl (doesO_storeB (ps := [(tL 2 Location.ty s29.2), (tL 5 Spill.ty r26.a.Spills), (tI s29.1)]) 2 [(tL 2 Location.ty s29.2), (tL 5 Spill.ty r26.a.Spills), (tI s29.1)] (Item.blk g11 135 [(tI r26.c.Params), (tI r26.c.Regs), (tL 5 Block.ty r26.c.Blocks), (tL 1 ls_SSI r26.at_), (Ty.own v10), (tL 2 Location.ty s29.2), (tL 5 Spill.ty r26.a.Spills), (tI s29.1)] :: rowL v10 4 1 lB r26.spilled :: Item.blk g2 66 [(tL 2 Location.ty s29.2), (tL 5 Spill.ty r26.a.Spills), (tI s29.1)] :: Item.blk g1 27 [(tI a0.Params), (tI a0.Regs), (tL 5 Block.ty a0.Blocks)] :: L) rfl rfl (part_agg _) Tryd.sizeOf66 rfl rfl rfl rfl ?_)
          refine okL_step 3 (tI 0) rfl rfl (does_assign rfl) ?_
          refine okL_nil ?_
          refine okX_next ?_
          refine okC_ret ?_
          obtain rfl := (smh h).symm
          exact okX_retCT () Tryd.results50 rfl rfl 2 rfl Tryd.isAgg66 Tryd.sizeOf66 rfl rfl [Item.blk g11 135 [(tI r26.c.Params), (tI r26.c.Regs), (tL 5 Block.ty r26.c.Blocks), (tL 1 ls_SSI r26.at_), (Ty.own v10), (tL 2 Location.ty s29.2), (tL 5 Spill.ty r26.a.Spills), (tI s29.1)], rowL v10 4 1 lB r26.spilled, Item.blk g2 66 [(tL 2 Location.ty s29.2), (tL 5 Spill.ty r26.a.Spills), (tI s29.1)], Item.blk g1 27 [(tI a0.Params), (tI a0.Regs), (tL 5 Block.ty a0.Blocks)]] (pm 0 rfl (pm 0 rfl (pm 0 rfl (pm 0 rfl (pr _)))))

def law34_RegAllocExamples (K : Nat) : Option Bool :=
  (Option.bind (law34_example K) (fun r1 => (Option.bind (regalloc_Allocate K r1) (fun r3 => (Option.bind (law34_example K) (fun r6 => (Option.bind (regalloc_UseCounts K r6) (fun r8 => (Option.bind (regalloc_Allocate K (⟨0, 1, ([(⟨[], 3, 0, 0, 0⟩ : Block)] : List Block)⟩ : VFunc)) (fun r10 => (Option.bind (cnd (((r3.2 == 0) && (r3.1.Slots == 2)) && (((r3.1.Spills).length : Int) == 1)) (Option.bind (idx r3.1.Spills 0) (fun y20 => (some (y20.Reg == 5)))) (some false)) (fun x19 => (Option.bind (cnd x19 (Option.bind (idx r3.1.Spills 0) (fun y27 => (some (y27.Reason == 2)))) (some false)) (fun x26 => (Option.bind (cnd x26 (Option.bind (idx r3.1.Spills 0) (fun y34 => (some (y34.Index == 6)))) (some false)) (fun x33 => (Option.bind (cnd (x33 && (((r3.1.Locations).length : Int) == 6)) (Option.bind (idx r3.1.Locations 5) (fun y42 => (some ((y42.InSlot == true) && (y42.Index == 1))))) (some false)) (fun x41 => (Option.bind (cnd x41 (Option.bind (idx r3.1.Locations 0) (fun y49 => (some ((y49.InSlot == false) && (y49.Index == 0))))) (some false)) (fun x48 => (Option.bind (cnd x48 (Option.bind (ref22_SameInts K r8 ([12, 2, 2, 2, 2, 2] : List Int)) (fun r56 => (some r56))) (some false)) (fun x55 => (some (x55 && (r10.2 == 205)))))))))))))))))))))))))

theorem c_law34_RegAllocExamples (K : Nat) (r : Bool) (h : law34_RegAllocExamples K = some r) : CallP Tryd.prog glob 11 [] (tB r) := by
  refine call_of_code Tryd.func11 rfl Tryd.ntmps11 rfl (fun L w => ?_)
  change OkC _ _ _ [] (L)
  unfold law34_RegAllocExamples at h
  refine okC_seq ?_
  refine okC_region ?_
  refine okL_step 0 (tB false) rfl rfl (does_assign rfl) ?_
  refine okL_nil ?_
  refine okX_next ?_
  refine okC_seq ?_
  refine okC_region ?_
  obtain ⟨r1, hc2, h⟩ := bs h
  refine okL_step 7 (Ty.agg [(tI r1.Params), (tI r1.Regs), (tL 5 Block.ty r1.Blocks)]) rfl rfl (does_call0 (c_law34_example K r1 hc2) rfl Tryd.call51 rfl) ?_
  obtain ⟨r3, hc4, h⟩ := bs h
  refine okL_step 8 (Ty.tup [(Ty.agg [(tL 2 Location.ty r3.1.Locations), (tL 5 Spill.ty r3.1.Spills), (tI r3.1.Slots)]), (tI r3.2)]) rfl rfl (does_call0 (c_regalloc_Allocate K r1 r3 hc4) rfl Tryd.call50 rfl) ?_
  refine okL_step 6 (Ty.tup [(Ty.agg [(tL 2 Location.ty r3.1.Locations), (tL 5 Spill.ty r3.1.Spills), (tI r3.1.Slots)]), (tI r3.2)]) rfl rfl (does_move rfl) ?_
  refine okL_step 9 (Ty.agg [(tL 2 Location.ty r3.1.Locations), (tL 5 Spill.ty r3.1.Spills), (tI r3.1.Slots)]) rfl rfl (does_extract rfl rfl) ?_
  refine okL_step 10 (tI r3.2) rfl rfl (does_extract rfl rfl) ?_
  refine okL_stepO 1 rfl rfl (doesO_alloc [(Ty.val (.slice none 0 0)), (Ty.val (.slice none 0 0)), (tI 0)] Tryd.zeroValue66 (part_of (sub_agg [(.slice none 0 0), (.slice none 0 0), (.int .i64 0)] rfl) (part_agg _)) (fun g5 => ?_))
  refine okL_stepU rfl (doesO_storeB (ps := [(tL 2 Location.ty r3.1.Locations), (tL 5 Spill.ty r3.1.Spills), (tI r3.1.Slots)]) 0 [(tL 2 Location.ty r3.1.Locations), (tL 5 Spill.ty r3.1.Spills), (tI r3.1.Slots)] (Item.blk g5 66 [(tL 2 Location.ty r3.1.Locations), (tL 5 Spill.ty r3.1.Spills), (tI r3.1.Slots)] :: L) rfl rfl (part_agg _) Tryd.sizeOf66 rfl rfl rfl rfl ?_)
  refine okL_step 2 (tI r3.2) rfl rfl (does_assign rfl) ?_
  refine okL_nil ?_
  refine okX_next ?_
  refine okC_seq ?_
  refine okC_region ?_
  obtain ⟨r6, hc7, h⟩ := bs h
  refine okL_step 11 (Ty.agg [(tI r6.Params), (tI r6.Regs), (tL 5 Block.ty r6.Blocks)]) rfl rfl (does_call0 (c_law34_example K r6 hc7) rfl Tryd.call51 rfl) ?_
  obtain ⟨r8, hc9, h⟩ := bs h
  refine okL_step 12 (tL 1 lI r8) rfl rfl (does_call0 (c_regalloc_UseCounts K r6 r8 hc9) rfl Tryd.call52 rfl) ?_
  refine okL_step 3 (tL 1 lI r8) rfl rfl (does_assign rfl) ?_
  refine okL_nil ?_
  refine okX_next ?_
  refine okC_seq ?_
  refine okC_region ?_
  refine okL_step 14 (Ty.agg [(Ty.val (.slice none 0 0)), (tI 3), (tI 0), (tI 0), (tI 0)]) rfl rfl (does_build [(Ty.val (.slice none 0 0)), (tI 3), (tI 0), (tI 0), (tI 0)] Tryd.zeroValue43 Tryd.underlying43 (places43 _ Tryd.underlying43) rfl (fc [(tI 3)] 1 rfl (part_one (one_i _)) rfl rfl (fn_ rfl))) ?_
  refine okL_step 15 (tL 5 Block.ty ([(⟨[], 3, 0, 0, 0⟩ : Block)] : List Block)) rfl rfl (does_buildSlice (f := Block.ty) ([(⟨[], 3, 0, 0, 0⟩ : Block)] : List Block) [(tL 6 VInstr.ty []), (tI 3), (tI 0), (tI 0), (tI 0)] el25 rfl rfl rfl (fc [(tL 6 VInstr.ty []), (tI 3), (tI 0), (tI 0), (tI 0)] 0 rfl (part_sub (part_agg _) (.cons (sub_nil _) (.cons (sub_refl _) (.cons (sub_refl _) (.cons (sub_refl _) (.cons (sub_refl _) SubL.nil)))))) rfl rfl (fn_ rfl)) rfl (fun _ => rfl)) ?_
  refine okL_step 16 (Ty.agg [(tI 0), (tI 1), (tL 5 Block.ty ([(⟨[], 3, 0, 0, 0⟩ : Block)] : List Block))]) rfl rfl (does_build [(tI 0), (tI 1), (tL 5 Block.ty ([(⟨[], 3, 0, 0, 0⟩ : Block)] : List Block))] Tryd.zeroValue27 Tryd.underlying27 (places27 _ Tryd.underlying27) rfl (fc [(tI 1)] 1 rfl (part_one (one_i _)) rfl rfl (fc [(tL 5 Block.ty ([(⟨[], 3, 0, 0, 0⟩ : Block)] : List Block))] 2 rfl (part_one (one_slice _ _)) rfl rfl (fn_ rfl)))) ?_
  obtain ⟨r10, hc11, h⟩ := bs h
  refine okL_step 17 (Ty.tup [(Ty.agg [(tL 2 Location.ty r10.1.Locations), (tL 5 Spill.ty r10.1.Spills), (tI r10.1.Slots)]), (tI r10.2)]) rfl rfl (does_call0 (c_regalloc_Allocate K (⟨0, 1, ([(⟨[], 3, 0, 0, 0⟩ : Block)] : List Block)⟩ : VFunc) r10 hc11) rfl Tryd.call50 rfl) ?_
  refine okL_step 13 (Ty.tup [(Ty.agg [(tL 2 Location.ty r10.1.Locations), (tL 5 Spill.ty r10.1.Spills), (tI r10.1.Slots)]), (tI r10.2)]) rfl rfl (does_move rfl) ?_
  refine okL_step 18 (Ty.agg [(tL 2 Location.ty r10.1.Locations), (tL 5 Spill.ty r10.1.Spills), (tI r10.1.Slots)]) rfl rfl (does_extract rfl rfl) ?_
  refine okL_step 19 (tI r10.2) rfl rfl (does_extract rfl rfl) ?_
  refine okL_stepO 4 rfl rfl (doesO_alloc [(Ty.val (.slice none 0 0)), (Ty.val (.slice none 0 0)), (tI 0)] Tryd.zeroValue66 (part_of (sub_agg [(.slice none 0 0), (.slice none 0 0), (.int .i64 0)] rfl) (part_agg _)) (fun g12 => ?_))
  refine okL_stepU rfl (doesO_storeB (ps := [(tL 2 Location.ty r10.1.Locations), (tL 5 Spill.ty r10.1.Spills), (tI r10.1.Slots)]) 0 [(tL 2 Location.ty r10.1.Locations), (tL 5 Spill.ty r10.1.Spills), (tI r10.1.Slots)] (Item.blk g12 66 [(tL 2 Location.ty r10.1.Locations), (tL 5 Spill.ty r10.1.Spills), (tI r10.1.Slots)] :: Item.blk g5 66 [(tL 2 Location.ty r3.1.Locations), (tL 5 Spill.ty r3.1.Spills), (tI r3.1.Slots)] :: L) rfl rfl (part_agg _) Tryd.sizeOf66 rfl rfl rfl rfl ?_)
  refine okL_step 5 (tI r10.2) rfl rfl (does_assign rfl) ?_
  refine okL_nil ?_
  refine okX_next ?_
  refine okC_seq ?_
  refine okC_region ?_
  refine okL_step 20 (tI r3.2) rfl rfl (does_move rfl) ?_
  refine okL_step 21 (tB (r3.2 == 0)) rfl rfl (does_eql rfl rfl) ?_
  refine okL_step 22 (tB (r3.2 == 0)) rfl rfl (does_move rfl) ?_
  refine okL_meet (X := Bool) 4 (fun x => x = ((r3.2 == 0) && (r3.1.Slots == 2))) (fun x : Bool => [(0, (tB false)), (1, (pAt g5 0)), (3, (tL 1 lI r8)), (5, (tI r10.2)), (26, (tB x))]) (fun x : Bool => Item.blk g12 66 [(tL 2 Location.ty r10.1.Locations), (tL 5 Spill.ty r10.1.Spills), (tI r10.1.Slots)] :: Item.blk g5 66 [(tL 2 Location.ty r3.1.Locations), (tL 5 Spill.ty r3.1.Spills), (tI r3.1.Slots)] :: L) _ rfl ?_ ?_
  · refine okL_split (r3.2 == 0) (fun hb13 => ?_) (fun hb13 => ?_)
    · refine okL_guard 23 (pAt g5 2) 22 (r3.2 == 0) rfl rfl hb13 rfl rfl (does_fieldAddrP 2 Tryd.underlying66 rfl Tryd.sizeOf3 rfl rfl) ?_
      refine okL_guard 24 (tI r3.1.Slots) 22 (r3.2 == 0) rfl rfl hb13 rfl rfl (does_loadB1 Tryd.isAgg3 rfl 1 rfl rfl) ?_
      refine okL_guard 25 (tB (r3.1.Slots == 2)) 22 (r3.2 == 0) rfl rfl hb13 rfl rfl (does_eql rfl rfl) ?_
      refine okL_step 26 (tB (r3.1.Slots == 2)) rfl rfl (does_pick_t (r3.2 == 0) rfl hb13 rfl) ?_
      refine okL_nil ?_
      exact okX_meet (I := _) (r3.1.Slots == 2) (and_t hb13) (cc rfl (cc rfl (cc rfl (cc rfl (cc rfl cn))))) rfl
    · refine okL_skip 23 22 (r3.2 == 0) rfl rfl hb13 rfl rfl ?_
      refine okL_skip 24 22 (r3.2 == 0) rfl rfl hb13 rfl rfl ?_
      refine okL_skip 25 22 (r3.2 == 0) rfl rfl hb13 rfl rfl ?_
      refine okL_step 26 (tB false) rfl rfl (does_pick_f (r3.2 == 0) rfl hb13 rfl) ?_
      refine okL_nil ?_
      exact okX_meet (I := _) false (and_f hb13) (cc rfl (cc rfl (cc rfl (cc rfl (cc rfl cn))))) rfl
  · intro x62 hx
    subst hx
    change OkL _ _ _ _ [(0, (tB false)), (1, (pAt g5 0)), (3, (tL 1 lI r8)), (5, (tI r10.2)), (26, (tB ((r3.2 == 0) && (r3.1.Slots == 2))))] (Item.blk g12 66 [(tL 2 Location.ty r10.1.Locations), (tL 5 Spill.ty r10.1.Spills), (tI r10.1.Slots)] :: Item.blk g5 66 [(tL 2 Location.ty r3.1.Locations), (tL 5 Spill.ty r3.1.Spills), (tI r3.1.Slots)] :: L)
    refine okL_step 27 (tB ((r3.2 == 0) && (r3.1.Slots == 2))) rfl rfl (does_move rfl) ?_
    refine okL_meet (X := Bool) 5 (fun x => x = (((r3.2 == 0) && (r3.1.Slots == 2)) && (((r3.1.Spills).length : Int) == 1))) (fun x : Bool => [(0, (tB false)), (1, (pAt g5 0)), (3, (tL 1 lI r8)), (5, (tI r10.2)), (32, (tB x))]) (fun x : Bool => Item.blk g12 66 [(tL 2 Location.ty r10.1.Locations), (tL 5 Spill.ty r10.1.Spills), (tI r10.1.Slots)] :: Item.blk g5 66 [(tL 2 Location.ty r3.1.Locations), (tL 5 Spill.ty r3.1.Spills), (tI r3.1.Slots)] :: L) _ rfl ?_ ?_
    · refine okL_split ((r3.2 == 0) && (r3.1.Slots == 2)) (fun hb14 => ?_) (fun hb14 => ?_)
      · refine okL_guard 28 (pAt g5 1) 27 ((r3.2 == 0) && (r3.1.Slots == 2)) rfl rfl hb14 rfl rfl (does_fieldAddrP 1 Tryd.underlying66 rfl Tryd.sizeOf64 rfl rfl) ?_
        refine okL_guard 29 (tL 5 Spill.ty r3.1.Spills) 27 ((r3.2 == 0) && (r3.1.Slots == 2)) rfl rfl hb14 rfl rfl (does_loadB1 Tryd.isAgg64 rfl 1 rfl rfl) ?_
        refine okL_guard 30 (tI ((r3.1.Spills).length : Int)) 27 ((r3.2 == 0) && (r3.1.Slots == 2)) rfl rfl hb14 rfl rfl (does_len (sz := 5) (f := Spill.ty) (l := r3.1.Spills) rfl Tryd.underlying64 rfl) ?_
        refine okL_guard 31 (tB (((r3.1.Spills).length : Int) == 1)) 27 ((r3.2 == 0) && (r3.1.Slots == 2)) rfl rfl hb14 rfl rfl (does_eql rfl rfl) ?_
        refine okL_step 32 (tB (((r3.1.Spills).length : Int) == 1)) rfl rfl (does_pick_t ((r3.2 == 0) && (r3.1.Slots == 2)) rfl hb14 rfl) ?_
        refine okL_nil ?_
        exact okX_meet (I := _) (((r3.1.Spills).length : Int) == 1) (and_t hb14) (cc rfl (cc rfl (cc rfl (cc rfl (cc rfl cn))))) rfl
      · refine okL_skip 28 27 ((r3.2 == 0) && (r3.1.Slots == 2)) rfl rfl hb14 rfl rfl ?_
        refine okL_skip 29 27 ((r3.2 == 0) && (r3.1.Slots == 2)) rfl rfl hb14 rfl rfl ?_
        refine okL_skip 30 27 ((r3.2 == 0) && (r3.1.Slots == 2)) rfl rfl hb14 rfl rfl ?_
        refine okL_skip 31 27 ((r3.2 == 0) && (r3.1.Slots == 2)) rfl rfl hb14 rfl rfl ?_
        refine okL_step 32 (tB false) rfl rfl (does_pick_f ((r3.2 == 0) && (r3.1.Slots == 2)) rfl hb14 rfl) ?_
        refine okL_nil ?_
        exact okX_meet (I := _) false (and_f hb14) (cc rfl (cc rfl (cc rfl (cc rfl (cc rfl cn))))) rfl
    · intro x61 hx
      subst hx
      change OkL _ _ _ _ [(0, (tB false)), (1, (pAt g5 0)), (3, (tL 1 lI r8)), (5, (tI r10.2)), (32, (tB (((r3.2 == 0) && (r3.1.Slots == 2)) && (((r3.1.Spills).length : Int) == 1))))] (Item.blk g12 66 [(tL 2 Location.ty r10.1.Locations), (tL 5 Spill.ty r10.1.Spills), (tI r10.1.Slots)] :: Item.blk g5 66 [(tL 2 Location.ty r3.1.Locations), (tL 5 Spill.ty r3.1.Spills), (tI r3.1.Slots)] :: L)
      refine okL_step 33 (tB (((r3.2 == 0) && (r3.1.Slots == 2)) && (((r3.1.Spills).length : Int) == 1))) rfl rfl (does_move rfl) ?_
      obtain ⟨z16, h18, hz17⟩ := bs h
      refine okL_meet (X := Bool) 7 (fun x => z16 = x) (fun x : Bool => [(0, (tB false)), (1, (pAt g5 0)), (3, (tL 1 lI r8)), (5, (tI r10.2)), (40, (tB x))]) (fun x : Bool => Item.blk g12 66 [(tL 2 Location.ty r10.1.Locations), (tL 5 Spill.ty r10.1.Spills), (tI r10.1.Slots)] :: Item.blk g5 66 [(tL 2 Location.ty r3.1.Locations), (tL 5 Spill.ty r3.1.Spills), (tI r3.1.Slots)] :: L) _ rfl ?_ ?_
      · refine okL_split (((r3.2 == 0) && (r3.1.Slots == 2)) && (((r3.1.Spills).length : Int) == 1)) (fun hb15 => ?_) (fun hb15 => ?_)
        · replace h18 := ct hb15 h18
          refine okL_guard 34 (pAt g5 1) 33 (((r3.2 == 0) && (r3.1.Slots == 2)) && (((r3.1.Spills).length : Int) == 1)) rfl rfl hb15 rfl rfl (does_fieldAddrP 1 Tryd.underlying66 rfl Tryd.sizeOf64 rfl rfl) ?_
          refine okL_guard 35 (tL 5 Spill.ty r3.1.Spills) 33 (((r3.2 == 0) && (r3.1.Slots == 2)) && (((r3.1.Spills).length : Int) == 1)) rfl rfl hb15 rfl rfl (does_loadB1 Tryd.isAgg64 rfl 1 rfl rfl) ?_
          obtain ⟨y20, hi21, h18⟩ := bs h18
          refine okL_guard 36 (Ty.ptr [(tI y20.Reg), (tI y20.Reason), (tI y20.Block), (tI y20.Index), (tL 1 lI y20.Others)]) 33 (((r3.2 == 0) && (r3.1.Slots == 2)) && (((r3.1.Spills).length : Int) == 1)) rfl rfl hb15 rfl rfl (does_index (sz := 5) (f := Spill.ty) (l := r3.1.Spills) (n := 0) y20 Tryd.underlying64 Tryd.sizeOf76 hi21 rfl rfl) ?_
          refine okL_guard 37 (Ty.ptr [(tI y20.Reg), (tI y20.Reason), (tI y20.Block), (tI y20.Index), (tL 1 lI y20.Others)]) 33 (((r3.2 == 0) && (r3.1.Slots == 2)) && (((r3.1.Spills).length : Int) == 1)) rfl rfl hb15 rfl rfl (does_fieldAddr [(tI y20.Reg), (tI y20.Reason), (tI y20.Block), (tI y20.Index), (tL 1 lI y20.Others)] Tryd.underlying76 rfl Tryd.sizeOf3 rfl rfl) ?_
          refine okL_guard 38 (tI y20.Reg) 33 (((r3.2 == 0) && (r3.1.Slots == 2)) && (((r3.1.Spills).length : Int) == 1)) rfl rfl hb15 rfl rfl (does_load1 Tryd.isAgg3 rfl) ?_
          refine okL_guard 39 (tB (y20.Reg == 5)) 33 (((r3.2 == 0) && (r3.1.Slots == 2)) && (((r3.1.Spills).length : Int) == 1)) rfl rfl hb15 rfl rfl (does_eql rfl rfl) ?_
          refine okL_step 40 (tB (y20.Reg == 5)) rfl rfl (does_pick_t (((r3.2 == 0) && (r3.1.Slots == 2)) && (((r3.1.Spills).length : Int) == 1)) rfl hb15 rfl) ?_
          refine okL_nil ?_
          exact okX_meet (I := _) (y20.Reg == 5) (smh h18) (cc rfl (cc rfl (cc rfl (cc rfl (cc rfl cn))))) rfl
        · replace h18 := cf hb15 h18
          refine okL_skip 34 33 (((r3.2 == 0) && (r3.1.Slots == 2)) && (((r3.1.Spills).length : Int) == 1)) rfl rfl hb15 rfl rfl ?_
          refine okL_skip 35 33 (((r3.2 == 0) && (r3.1.Slots == 2)) && (((r3.1.Spills).length : Int) == 1)) rfl rfl hb15 rfl rfl ?_
          refine okL_skip 36 33 (((r3.2 == 0) && (r3.1.Slots == 2)) && (((r3.1.Spills).length : Int) == 1)) rfl rfl hb15 rfl rfl ?_
          refine okL_skip 37 33 (((r3.2 == 0) && (r3.1.Slots == 2)) && (((r3.1.Spills).length : Int) == 1)) rfl rfl hb15 rfl rfl ?_
          refine okL_skip 38 33 (((r3.2 == 0) && (r3.1.Slots == 2)) && (((r3.1.Spills).length : Int) == 1)) rfl rfl hb15 rfl rfl ?_
          refine okL_skip 39 33 (((r3.2 == 0) && (r3.1.Slots == 2)) && (((r3.1.Spills).length : Int) == 1)) rfl rfl hb15 rfl rfl ?_
          refine okL_step 40 (tB false) rfl rfl (does_pick_f (((r3.2 == 0) && (r3.1.Slots == 2)) && (((r3.1.Spills).length : Int) == 1)) rfl hb15 rfl) ?_
          refine okL_nil ?_
          exact okX_meet (I := _) false (smh h18) (cc rfl (cc rfl (cc rfl (cc rfl (cc rfl cn))))) rfl
      · intro x19 hx
        obtain rfl : x19 = z16 := hx.symm
        replace h := hz17
        change OkL _ _ _ _ [(0, (tB false)), (1, (pAt g5 0)), (3, (tL 1 lI r8)), (5, (tI r10.2)), (40, (tB x19))] (Item.blk g12 66 [(tL 2 Location.ty r10.1.Locations), (tL 5 Spill.ty r10.1.Spills), (tI r10.1.Slots)] :: Item.blk g5 66 [(tL 2 Location.ty r3.1.Locations), (tL 5 Spill.ty r3.1.Spills), (tI r3.1.Slots)] :: L)
        refine okL_step 41 (tB x19) rfl rfl (does_move rfl) ?_
        obtain ⟨z23, h25, hz24⟩ := bs h
        refine okL_meet (X := Bool) 7 (fun x => z23 = x) (fun x : Bool => [(0, (tB false)), (1, (pAt g5 0)), (3, (tL 1 lI r8)), (5, (tI r10.2)), (48, (tB x))]) (fun x : Bool => Item.blk g12 66 [(tL 2 Location.ty r10.1.Locations), (tL 5 Spill.ty r10.1.Spills), (tI r10.1.Slots)] :: Item.blk g5 66 [(tL 2 Location.ty r3.1.Locations), (tL 5 Spill.ty r3.1.Spills), (tI r3.1.Slots)] :: L) _ rfl ?_ ?_
        · refine okL_split x19 (fun hb22 => ?_) (fun hb22 => ?_)
          · replace h25 := ct hb22 h25
            refine okL_guard 42 (pAt g5 1) 41 x19 rfl rfl hb22 rfl rfl (does_fieldAddrP 1 Tryd.underlying66 rfl Tryd.sizeOf64 rfl rfl) ?_
            refine okL_guard 43 (tL 5 Spill.ty r3.1.Spills) 41 x19 rfl rfl hb22 rfl rfl (does_loadB1 Tryd.isAgg64 rfl 1 rfl rfl) ?_
            obtain ⟨y27, hi28, h25⟩ := bs h25
            refine okL_guard 44 (Ty.ptr [(tI y27.Reg), (tI y27.Reason), (tI y27.Block), (tI y27.Index), (tL 1 lI y27.Others)]) 41 x19 rfl rfl hb22 rfl rfl (does_index (sz := 5) (f := Spill.ty) (l := r3.1.Spills) (n := 0) y27 Tryd.underlying64 Tryd.sizeOf76 hi28 rfl rfl) ?_
            refine okL_guard 45 (Ty.ptr [(tI y27.Reason), (tI y27.Block), (tI y27.Index), (tL 1 lI y27.Others)]) 41 x19 rfl rfl hb22 rfl rfl (does_fieldAddr [(tI y27.Reason), (tI y27.Block), (tI y27.Index), (tL 1 lI y27.Others)] Tryd.underlying76 rfl Tryd.sizeOf3 rfl rfl) ?_
            refine okL_guard 46 (tI y27.Reason) 41 x19 rfl rfl hb22 rfl rfl (does_load1 Tryd.isAgg3 rfl) ?_
            refine okL_guard 47 (tB (y27.Reason == 2)) 41 x19 rfl rfl hb22 rfl rfl (does_eql rfl rfl) ?_
            refine okL_step 48 (tB (y27.Reason == 2)) rfl rfl (does_pick_t x19 rfl hb22 rfl) ?_
            refine okL_nil ?_
            exact okX_meet (I := _) (y27.Reason == 2) (smh h25) (cc rfl (cc rfl (cc rfl (cc rfl (cc rfl cn))))) rfl
          · replace h25 := cf hb22 h25
            refine okL_skip 42 41 x19 rfl rfl hb22 rfl rfl ?_
            refine okL_skip 43 41 x19 rfl rfl hb22 rfl rfl ?_
            refine okL_skip 44 41 x19 rfl rfl hb22 rfl rfl ?_
            refine okL_skip 45 41 x19 rfl rfl hb22 rfl rfl ?_
            refine okL_skip 46 41 x19 rfl rfl hb22 rfl rfl ?_
            refine okL_skip 47 41 x19 rfl rfl hb22 rfl rfl ?_
            refine okL_step 48 (tB false) rfl rfl (does_pick_f x19 rfl hb22 rfl) ?_
            refine okL_nil ?_
            exact okX_meet (I := _) false (smh h25) (cc rfl (cc rfl (cc rfl (cc rfl (cc rfl cn))))) rfl
        · intro x26 hx
          obtain rfl : x26 = z23 := hx.symm
          replace h := hz24
          change OkL _ _ _ _ [(0, (tB false)), (1, (pAt g5 0)), (3, (tL 1 lI r8)), (5, (tI r10.2)), (48, (tB x26))] (Item.blk g12 66 [(tL 2 Location.ty r10.1.Locations), (tL 5 Spill.ty r10.1.Spills), (tI r10.1.Slots)] :: Item.blk g5 66 [(tL 2 Location.ty r3.1.Locations), (tL 5 Spill.ty r3.1.Spills), (tI r3.1.Slots)] :: L)
          refine okL_step 49 (tB x26) rfl rfl (does_move rfl) ?_
          obtain ⟨z30, h32, hz31⟩ := bs h
          refine okL_meet (X := Bool) 7 (fun x => z30 = x) (fun x : Bool => [(0, (tB false)), (1, (pAt g5 0)), (3, (tL 1 lI r8)), (5, (tI r10.2)), (56, (tB x))]) (fun x : Bool => Item.blk g12 66 [(tL 2 Location.ty r10.1.Locations), (tL 5 Spill.ty r10.1.Spills), (tI r10.1.Slots)] :: Item.blk g5 66 [(tL 2 Location.ty r3.1.Locations), (tL 5 Spill.ty r3.1.Spills), (tI r3.1.Slots)] :: L) _ rfl ?_ ?_
          · refine okL_split x26 (fun hb29 => ?_) (fun hb29 => ?_)
            · replace h32 := ct hb29 h32
              refine okL_guard 50 (pAt g5 1) 49 x26 rfl rfl hb29 rfl rfl (does_fieldAddrP 1 Tryd.underlying66 rfl Tryd.sizeOf64 rfl rfl) ?_
              refine okL_guard 51 (tL 5 Spill.ty r3.1.Spills) 49 x26 rfl rfl hb29 rfl rfl (does_loadB1 Tryd.isAgg64 rfl 1 rfl rfl) ?_
              obtain ⟨y34, hi35, h32⟩ := bs h32
              refine okL_guard 52 (Ty.ptr [(tI y34.Reg), (tI y34.Reason), (tI y34.Block), (tI y34.Index), (tL 1 lI y34.Others)]) 49 x26 rfl rfl hb29 rfl rfl (does_index (sz := 5) (f := Spill.ty) (l := r3.1.Spills) (n := 0) y34 Tryd.underlying64 Tryd.sizeOf76 hi35 rfl rfl) ?_
              refine okL_guard 53 (Ty.ptr [(tI y34.Index), (tL 1 lI y34.Others)]) 49 x26 rfl rfl hb29 rfl rfl (does_fieldAddr [(tI y34.Index), (tL 1 lI y34.Others)] Tryd.underlying76 rfl Tryd.sizeOf3 rfl rfl) ?_
              refine okL_guard 54 (tI y34.Index) 49 x26 rfl rfl hb29 rfl rfl (does_load1 Tryd.isAgg3 rfl) ?_
              refine okL_guard 55 (tB (y34.Index == 6)) 49 x26 rfl rfl hb29 rfl rfl (does_eql rfl rfl) ?_
              refine okL_step 56 (tB (y34.Index == 6)) rfl rfl (does_pick_t x26 rfl hb29 rfl) ?_
              refine okL_nil ?_
              exact okX_meet (I := _) (y34.Index == 6) (smh h32) (cc rfl (cc rfl (cc rfl (cc rfl (cc rfl cn))))) rfl
            · replace h32 := cf hb29 h32
              refine okL_skip 50 49 x26 rfl rfl hb29 rfl rfl ?_
              refine okL_skip 51 49 x26 rfl rfl hb29 rfl rfl ?_
              refine okL_skip 52 49 x26 rfl rfl hb29 rfl rfl ?_
              refine okL_skip 53 49 x26 rfl rfl hb29 rfl rfl ?_
              refine okL_skip 54 49 x26 rfl rfl hb29 rfl rfl ?_
              refine okL_skip 55 49 x26 rfl rfl hb29 rfl rfl ?_
              refine okL_step 56 (tB false) rfl rfl (does_pick_f x26 rfl hb29 rfl) ?_
              refine okL_nil ?_
              exact okX_meet (I := _) false (smh h32) (cc rfl (cc rfl (cc rfl (cc rfl (cc rfl cn))))) rfl
          · intro x33 hx
            obtain rfl : x33 = z30 := hx.symm
            replace h := hz31
            change OkL _ _ _ _ [(0, (tB false)), (1, (pAt g5 0)), (3, (tL 1 lI r8)), (5, (tI r10.2)), (56, (tB x33))] (Item.blk g12 66 [(tL 2 Location.ty r10.1.Locations), (tL 5 Spill.ty r10.1.Spills), (tI r10.1.Slots)] :: Item.blk g5 66 [(tL 2 Location.ty r3.1.Locations), (tL 5 Spill.ty r3.1.Spills), (tI r3.1.Slots)] :: L)
            refine okL_step 57 (tB x33) rfl rfl (does_move rfl) ?_
            refine okL_meet (X := Bool) 5 (fun x => x = (x33 && (((r3.1.Locations).length : Int) == 6))) (fun x : Bool => [(0, (tB false)), (1, (pAt g5 0)), (3, (tL 1 lI r8)), (5, (tI r10.2)), (62, (tB x))]) (fun x : Bool => Item.blk g12 66 [(tL 2 Location.ty r10.1.Locations), (tL 5 Spill.ty r10.1.Spills), (tI r10.1.Slots)] :: Item.blk g5 66 [(tL 2 Location.ty r3.1.Locations), (tL 5 Spill.ty r3.1.Spills), (tI r3.1.Slots)] :: L) _ rfl ?_ ?_
            · refine okL_split x33 (fun hb36 => ?_) (fun hb36 => ?_)
              · refine okL_guard 58 (pAt g5 0) 57 x33 rfl rfl hb36 rfl rfl (does_fieldAddrP 0 Tryd.underlying66 rfl Tryd.sizeOf63 rfl rfl) ?_
                refine okL_guard 59 (tL 2 Location.ty r3.1.Locations) 57 x33 rfl rfl hb36 rfl rfl (does_loadB1 Tryd.isAgg63 rfl 1 rfl rfl) ?_
                refine okL_guard 60 (tI ((r3.1.Locations).length : Int)) 57 x33 rfl rfl hb36 rfl rfl (does_len (sz := 2) (f := Location.ty) (l := r3.1.Locations) rfl Tryd.underlying63 rfl) ?_
                refine okL_guard 61 (tB (((r3.1.Locations).length : Int) == 6)) 57 x33 rfl rfl hb36 rfl rfl (does_eql rfl rfl) ?_
                refine okL_step 62 (tB (((r3.1.Locations).length : Int) == 6)) rfl rfl (does_pick_t x33 rfl hb36 rfl) ?_
                refine okL_nil ?_
                exact okX_meet (I := _) (((r3.1.Locations).length : Int) == 6) (and_t hb36) (cc rfl (cc rfl (cc rfl (cc rfl (cc rfl cn))))) rfl
              · refine okL_skip 58 57 x33 rfl rfl hb36 rfl rfl ?_
                refine okL_skip 59 57 x33 rfl rfl hb36 rfl rfl ?_
                refine okL_skip 60 57 x33 rfl rfl hb36 rfl rfl ?_
                refine okL_skip 61 57 x33 rfl rfl hb36 rfl rfl ?_
                refine okL_step 62 (tB false) rfl rfl (does_pick_f x33 rfl hb36 rfl) ?_
                refine okL_nil ?_
                exact okX_meet (I := _) false (and_f hb36) (cc rfl (cc rfl (cc rfl (cc rfl (cc rfl cn))))) rfl
            · intro x60 hx
              subst hx
              change OkL _ _ _ _ [(0, (tB false)), (1, (pAt g5 0)), (3, (tL 1 lI r8)), (5, (tI r10.2)), (62, (tB (x33 && (((r3.1.Locations).length : Int) == 6))))] (Item.blk g12 66 [(tL 2 Location.ty r10.1.Locations), (tL 5 Spill.ty r10.1.Spills), (tI r10.1.Slots)] :: Item.blk g5 66 [(tL 2 Location.ty r3.1.Locations), (tL 5 Spill.ty r3.1.Spills), (tI r3.1.Slots)] :: L)
              refine okL_step 63 (tB (x33 && (((r3.1.Locations).length : Int) == 6))) rfl rfl (does_move rfl) ?_
              obtain ⟨z38, h40, hz39⟩ := bs h
              refine okL_meet (X := Bool) 7 (fun x => z38 = x) (fun x : Bool => [(0, (tB false)), (1, (pAt g5 0)), (3, (tL 1 lI r8)), (5, (tI r10.2)), (70, (tB x))]) (fun x : Bool => Item.blk g12 66 [(tL 2 Location.ty r10.1.Locations), (tL 5 Spill.ty r10.1.Spills), (tI r10.1.Slots)] :: Item.blk g5 66 [(tL 2 Location.ty r3.1.Locations), (tL 5 Spill.ty r3.1.Spills), (tI r3.1.Slots)] :: L) _ rfl ?_ ?_
              · refine okL_split (x33 && (((r3.1.Locations).length : Int) == 6)) (fun hb37 => ?_) (fun hb37 => ?_)
                · replace h40 := ct hb37 h40
                  refine okL_guard 64 (pAt g5 0) 63 (x33 && (((r3.1.Locations).length : Int) == 6)) rfl rfl hb37 rfl rfl (does_fieldAddrP 0 Tryd.underlying66 rfl Tryd.sizeOf63 rfl rfl) ?_
                  refine okL_guard 65 (tL 2 Location.ty r3.1.Locations) 63 (x33 && (((r3.1.Locations).length : Int) == 6)) rfl rfl hb37 rfl rfl (does_loadB1 Tryd.isAgg63 rfl 1 rfl rfl) ?_
                  obtain ⟨y42, hi43, h40⟩ := bs h40
                  refine okL_guard 66 (Ty.ptr [(tB y42.InSlot), (tI y42.Index)]) 63 (x33 && (((r3.1.Locations).length : Int) == 6)) rfl rfl hb37 rfl rfl (does_index (sz := 2) (f := Location.ty) (l := r3.1.Locations) (n := 5) y42 Tryd.underlying63 Tryd.sizeOf72 hi43 rfl rfl) ?_
                  refine okL_guard 67 (Ty.agg [(tB y42.InSlot), (tI y42.Index)]) 63 (x33 && (((r3.1.Locations).length : Int) == 6)) rfl rfl hb37 rfl rfl (does_loadA [(tB y42.InSlot), (tI y42.Index)] Tryd.isAgg72 Tryd.sizeOf72 rfl rfl rfl) ?_
                  refine okL_guard 68 (Ty.agg [(tB true), (tI 1)]) 63 (x33 && (((r3.1.Locations).length : Int) == 6)) rfl rfl hb37 rfl rfl (does_build [(tB true), (tI 1)] Tryd.zeroValue72 Tryd.underlying72 (places72 _ Tryd.underlying72) rfl (fc [(tB true)] 0 rfl (part_one (one_b _)) rfl rfl (fc [(tI 1)] 1 rfl (part_one (one_i _)) rfl rfl (fn_ rfl)))) ?_
                  refine okL_guard 69 (tB ((y42.InSlot == true) && (y42.Index == 1))) 63 (x33 && (((r3.1.Locations).length : Int) == 6)) rfl rfl hb37 rfl rfl (does_eqlS [.b y42.InSlot, .i y42.Index] [.b true, .i 1] ((y42.InSlot == true) && (y42.Index == 1)) Tryd.underlying72 sih72 egt72 (Fields.b Tryd.underlying4 (by decide) rfl Tryd.isAgg4 (Fields.i Tryd.underlying3 (by decide) rfl Tryd.isAgg3 Fields.nil)) rfl rfl (by simp only [eqs, Cell.eq, Bool.and_true]) rfl rfl) ?_
                  refine okL_step 70 (tB ((y42.InSlot == true) && (y42.Index == 1))) rfl rfl (does_pick_t (x33 && (((r3.1.Locations).length : Int) == 6)) rfl hb37 rfl) ?_
                  refine okL_nil ?_
                  exact okX_meet (I := _) ((y42.InSlot == true) && (y42.Index == 1)) (smh h40) (cc rfl (cc rfl (cc rfl (cc rfl (cc rfl cn))))) rfl
                · replace h40 := cf hb37 h40
                  refine okL_skip 64 63 (x33 && (((r3.1.Locations).length : Int) == 6)) rfl rfl hb37 rfl rfl ?_
                  refine okL_skip 65 63 (x33 && (((r3.1.Locations).length : Int) == 6)) rfl rfl hb37 rfl rfl ?_
                  refine okL_skip 66 63 (x33 && (((r3.1.Locations).length : Int) == 6)) rfl rfl hb37 rfl rfl ?_
                  refine okL_skip 67 63 (x33 && (((r3.1.Locations).length : Int) == 6)) rfl rfl hb37 rfl rfl ?_
                  refine okL_skip 68 63 (x33 && (((r3.1.Locations).length : Int) == 6)) rfl rfl hb37 rfl rfl ?_
                  refine okL_skip 69 63 (x33 && (((r3.1.Locations).length : Int) == 6)) rfl rfl hb37 rfl rfl ?_
                  refine okL_step 70 (tB false) rfl rfl (does_pick_f (x33 && (((r3.1.Locations).length : Int) == 6)) rfl hb37 rfl) ?_
                  refine okL_nil ?_
                  exact okX_meet (I := _) false (smh h40) (cc rfl (cc rfl (cc rfl (cc rfl (cc rfl cn))))) rfl
              · intro x41 hx
                obtain rfl : x41 = z38 := hx.symm
                replace h := hz39
                change OkL _ _ _ _ [(0, (tB false)), (1, (pAt g5 0)), (3, (tL 1 lI r8)), (5, (tI r10.2)), (70, (tB x41))] (Item.blk g12 66 [(tL 2 Location.ty r10.1.Locations), (tL 5 Spill.ty r10.1.Spills), (tI r10.1.Slots)] :: Item.blk g5 66 [(tL 2 Location.ty r3.1.Locations), (tL 5 Spill.ty r3.1.Spills), (tI r3.1.Slots)] :: L)
                refine okL_step 71 (tB x41) rfl rfl (does_move rfl) ?_
                obtain ⟨z45, h47, hz46⟩ := bs h
                refine okL_meet (X := Bool) 7 (fun x => z45 = x) (fun x : Bool => [(0, (tB false)), (3, (tL 1 lI r8)), (5, (tI r10.2)), (78, (tB x))]) (fun x : Bool => Item.blk g12 66 [(tL 2 Location.ty r10.1.Locations), (tL 5 Spill.ty r10.1.Spills), (tI r10.1.Slots)] :: Item.blk g5 66 [(tL 2 Location.ty r3.1.Locations), (tL 5 Spill.ty r3.1.Spills), (tI r3.1.Slots)] :: L) _ rfl ?_ ?_
                · refine okL_split x41 (fun hb44 => ?_) (fun hb44 => ?_)
                  · replace h47 := ct hb44 h47
                    refine okL_guard 72 (pAt g5 0) 71 x41 rfl rfl hb44 rfl rfl (does_fieldAddrP 0 Tryd.underlying66 rfl Tryd.sizeOf63 rfl rfl) ?_
                    refine okL_guard 73 (tL 2 Location.ty r3.1.Locations) 71 x41 rfl rfl hb44 rfl rfl (does_loadB1 Tryd.isAgg63 rfl 1 rfl rfl) ?_
                    obtain ⟨y49, hi50, h47⟩ := bs h47
                    refine okL_guard 74 (Ty.ptr [(tB y49.InSlot), (tI y49.Index)]) 71 x41 rfl rfl hb44 rfl rfl (does_index (sz := 2) (f := Location.ty) (l := r3.1.Locations) (n := 0) y49 Tryd.underlying63 Tryd.sizeOf72 hi50 rfl rfl) ?_
                    refine okL_guard 75 (Ty.agg [(tB y49.InSlot), (tI y49.Index)]) 71 x41 rfl rfl hb44 rfl rfl (does_loadA [(tB y49.InSlot), (tI y49.Index)] Tryd.isAgg72 Tryd.sizeOf72 rfl rfl rfl) ?_
                    refine okL_guard 76 (Ty.agg [(tB false), (tI 0)]) 71 x41 rfl rfl hb44 rfl rfl (does_build [(tB false), (tI 0)] Tryd.zeroValue72 Tryd.underlying72 (places72 _ Tryd.underlying72) rfl (fn_ rfl)) ?_
                    refine okL_guard 77 (tB ((y49.InSlot == false) && (y49.Index == 0))) 71 x41 rfl rfl hb44 rfl rfl (does_eqlS [.b y49.InSlot, .i y49.Index] [.b false, .i 0] ((y49.InSlot == false) && (y49.Index == 0)) Tryd.underlying72 sih72 egt72 (Fields.b Tryd.underlying4 (by decide) rfl Tryd.isAgg4 (Fields.i Tryd.underlying3 (by decide) rfl Tryd.isAgg3 Fields.nil)) rfl rfl (by simp only [eqs, Cell.eq, Bool.and_true]) rfl rfl) ?_
                    refine okL_step 78 (tB ((y49.InSlot == false) && (y49.Index == 0))) rfl rfl (does_pick_t x41 rfl hb44 rfl) ?_
                    refine okL_nil ?_
                    exact okX_meet (I := _) ((y49.InSlot == false) && (y49.Index == 0)) (smh h47) (cc rfl (cc rfl (cc rfl (cc rfl cn)))) rfl
                  · replace h47 := cf hb44 h47
                    refine okL_skip 72 71 x41 rfl rfl hb44 rfl rfl ?_
                    refine okL_skip 73 71 x41 rfl rfl hb44 rfl rfl ?_
                    refine okL_skip 74 71 x41 rfl rfl hb44 rfl rfl ?_
                    refine okL_skip 75 71 x41 rfl rfl hb44 rfl rfl ?_
                    refine okL_skip 76 71 x41 rfl rfl hb44 rfl rfl ?_
                    refine okL_skip 77 71 x41 rfl rfl hb44 rfl rfl ?_
                    refine okL_step 78 (tB false) rfl rfl (does_pick_f x41 rfl hb44 rfl) ?_
                    refine okL_nil ?_
                    exact okX_meet (I := _) false (smh h47) (cc rfl (cc rfl (cc rfl (cc rfl cn)))) rfl
                · intro x48 hx
                  obtain rfl : x48 = z45 := hx.symm
                  replace h := hz46
                  change OkL _ _ _ _ [(0, (tB false)), (3, (tL 1 lI r8)), (5, (tI r10.2)), (78, (tB x48))] (Item.blk g12 66 [(tL 2 Location.ty r10.1.Locations), (tL 5 Spill.ty r10.1.Spills), (tI r10.1.Slots)] :: Item.blk g5 66 [(tL 2 Location.ty r3.1.Locations), (tL 5 Spill.ty r3.1.Spills), (tI r3.1.Slots)] :: L)
                  refine okL_step 79 (tB x48) rfl rfl (does_move rfl) ?_
                  obtain ⟨z52, h54, hz53⟩ := bs h
                  refine okL_meet (X := Bool) 4 (fun x => z52 = x) (fun x : Bool => [(0, (tB false)), (5, (tI r10.2)), (83, (tB x))]) (fun x : Bool => Item.blk g12 66 [(tL 2 Location.ty r10.1.Locations), (tL 5 Spill.ty r10.1.Spills), (tI r10.1.Slots)] :: Item.blk g5 66 [(tL 2 Location.ty r3.1.Locations), (tL 5 Spill.ty r3.1.Spills), (tI r3.1.Slots)] :: L) _ rfl ?_ ?_
                  · refine okL_split x48 (fun hb51 => ?_) (fun hb51 => ?_)
                    · replace h54 := ct hb51 h54
                      refine okL_guard 80 (tL 1 lI r8) 79 x48 rfl rfl hb51 rfl rfl (does_move rfl) ?_
                      refine okL_guard 81 (tL 1 lI ([12, 2, 2, 2, 2, 2] : List Int)) 79 x48 rfl rfl hb51 rfl rfl (does_buildSlice (f := lI) ([12, 2, 2, 2, 2, 2] : List Int) [(tI 12), (tI 2), (tI 2), (tI 2), (tI 2), (tI 2)] el31 rfl rfl rfl (fc [(tI 12)] 0 rfl (part_one (one_i _)) rfl rfl (fc [(tI 2)] 1 rfl (part_one (one_i _)) rfl rfl (fc [(tI 2)] 2 rfl (part_one (one_i _)) rfl rfl (fc [(tI 2)] 3 rfl (part_one (one_i _)) rfl rfl (fc [(tI 2)] 4 rfl (part_one (one_i _)) rfl rfl (fc [(tI 2)] 5 rfl (part_one (one_i _)) rfl rfl (fn_ rfl))))))) rfl (fun _ => rfl)) ?_
                      obtain ⟨r56, hc57, h54⟩ := bs h54
                      refine okL_guard 82 (tB r56) 79 x48 rfl rfl hb51 rfl rfl (does_call0 (c_ref22_SameInts K r8 ([12, 2, 2, 2, 2, 2] : List Int) r56 hc57) rfl Tryd.call26 rfl) ?_
                      refine okL_step 83 (tB r56) rfl rfl (does_pick_t x48 rfl hb51 rfl) ?_
                      refine okL_nil ?_
                      exact okX_meet (I := _) r56 (smh h54) (cc rfl (cc rfl (cc rfl cn))) rfl
                    · replace h54 := cf hb51 h54
                      refine okL_skip 80 79 x48 rfl rfl hb51 rfl rfl ?_
                      refine okL_skip 81 79 x48 rfl rfl hb51 rfl rfl ?_
                      refine okL_skip 82 79 x48 rfl rfl hb51 rfl rfl ?_
                      refine okL_step 83 (tB false) rfl rfl (does_pick_f x48 rfl hb51 rfl) ?_
                      refine okL_nil ?_
                      exact okX_meet (I := _) false (smh h54) (cc rfl (cc rfl (cc rfl cn))) rfl
                  · intro x55 hx
                    obtain rfl : x55 = z52 := hx.symm
                    replace h := hz53
                    change OkL _ _ _ _ [(0, (tB false)), (5, (tI r10.2)), (83, (tB x55))] (Item.blk g12 66 [(tL 2 Location.ty r10.1.Locations), (tL 5 Spill.ty r10.1.Spills), (tI r10.1.Slots)] :: Item.blk g5 66 [(tL 2 Location.ty r3.1.Locations), (tL 5 Spill.ty r3.1.Spills), (tI r3.1.Slots)] :: L)
                    refine okL_step 84 (tB x55) rfl rfl (does_move rfl) ?_
                    refine okL_meet (X := Bool) 3 (fun x => x = (x55 && (r10.2 == 205))) (fun x : Bool => [(0, (tB false)), (87, (tB x))]) (fun x : Bool => Item.blk g12 66 [(tL 2 Location.ty r10.1.Locations), (tL 5 Spill.ty r10.1.Spills), (tI r10.1.Slots)] :: Item.blk g5 66 [(tL 2 Location.ty r3.1.Locations), (tL 5 Spill.ty r3.1.Spills), (tI r3.1.Slots)] :: L) _ rfl ?_ ?_
                    · refine okL_split x55 (fun hb58 => ?_) (fun hb58 => ?_)
                      · refine okL_guard 85 (tI r10.2) 84 x55 rfl rfl hb58 rfl rfl (does_move rfl) ?_
                        refine okL_guard 86 (tB (r10.2 == 205)) 84 x55 rfl rfl hb58 rfl rfl (does_eql rfl rfl) ?_
                        refine okL_step 87 (tB (r10.2 == 205)) rfl rfl (does_pick_t x55 rfl hb58 rfl) ?_
                        refine okL_nil ?_
                        exact okX_meet (I := _) (r10.2 == 205) (and_t hb58) (cc rfl (cc rfl cn)) rfl
                      · refine okL_skip 85 84 x55 rfl rfl hb58 rfl rfl ?_
                        refine okL_skip 86 84 x55 rfl rfl hb58 rfl rfl ?_
                        refine okL_step 87 (tB false) rfl rfl (does_pick_f x55 rfl hb58 rfl) ?_
                        refine okL_nil ?_
                        exact okX_meet (I := _) false (and_f hb58) (cc rfl (cc rfl cn)) rfl
                    · intro x59 hx
                      subst hx
                      change OkL _ _ _ _ [(0, (tB false)), (87, (tB (x55 && (r10.2 == 205))))] (Item.blk g12 66 [(tL 2 Location.ty r10.1.Locations), (tL 5 Spill.ty r10.1.Spills), (tI r10.1.Slots)] :: Item.blk g5 66 [(tL 2 Location.ty r3.1.Locations), (tL 5 Spill.ty r3.1.Spills), (tI r3.1.Slots)] :: L)
                      refine okL_step 0 (tB (x55 && (r10.2 == 205))) rfl rfl (does_assign rfl) ?_
                      refine okL_nil ?_
                      refine okX_next ?_
                      refine okC_ret ?_
                      obtain rfl := (smh h).symm
                      refine okX_items [Item.blk g12 66 [(tL 2 Location.ty r10.1.Locations), (tL 5 Spill.ty r10.1.Spills), (tI r10.1.Slots)], Item.blk g5 66 [(tL 2 Location.ty r3.1.Locations), (tL 5 Spill.ty r3.1.Spills), (tI r3.1.Slots)]] (L) (pm 0 rfl (pm 0 rfl (pr _))) ?_
                      exact okX_ret1 () Tryd.results11 rfl rfl

end Go.Proofs.YtocfnpnnbmicmaaDoor.Tc
