/- Written by gen.py: for each Go function a pure Lean function, and that the Go code comes to what it says. -/
import Derived.Test.YtocfnpnnbmicmaaDoorXAc2
set_option linter.unusedVariables false
set_option maxRecDepth 8000
set_option maxHeartbeats 4000000
namespace Go.Proofs.YtocfnpnnbmicmaaDoor.Tc
open Go Go.RowKit

def regalloc_points_l3 (K : Nat) (r44 : (List Int)) : Nat → ((List Int) × Int) → Option (List Int)
  | 0, _ => none
  | k + 1, s51 => (cnd (decide (s51.2 < ((r44).length : Int))) (Option.bind (Option.bind (idx r44 s51.2) (fun y59 => (Option.bind (regalloc_contains K s51.1 y59) (fun r61 => (cnd r61 (Option.bind (regalloc_without K s51.1 y59) (fun r64 => (some r64))) (some s51.1)))))) (fun s54 => (regalloc_points_l3 K r44 k (s54, (w64 (s51.2 + 1)))))) (some s51.1))

def regalloc_points_l4 (K : Nat) (r68 : (List Int)) : Nat → ((List Int) × Int) → Option (List Int)
  | 0, _ => none
  | k + 1, s75 => (cnd (decide (s75.2 < ((r68).length : Int))) (Option.bind (idx r68 s75.2) (fun y78 => (Option.bind (regalloc_insert K s75.1 y78) (fun r80 => (regalloc_points_l4 K r68 k (r80, (w64 (s75.2 + 1)))))))) (some s75.1))

def regalloc_points_l2 (K : Nat) (y12 : Block) : Nat → ((List Int) × Int × (List (List Int))) → Option (List (List Int))
  | 0, _ => none
  | k + 1, s39 => (cnd (decide (s39.2.1 ≥ 0)) (Option.bind (idx y12.Instrs s39.2.1) (fun y42 => (Option.bind (vcode_Writes y42) (fun r44 => (Option.bind (regalloc_points_l3 K r44 K (s39.1, 0)) (fun s46 => (Option.bind (idx y12.Instrs s39.2.1) (fun y66 => (Option.bind (vcode_Reads K y66) (fun r68 => (Option.bind (regalloc_points_l4 K r68 K (s46, 0)) (fun s70 => (Option.bind (idx s39.2.2 s39.2.1) (fun y82 => (regalloc_points_l2 K y12 k (s70, (w64 (s39.2.1 - 1)), (s39.2.2.set s39.2.1.toNat s70))))))))))))))))) (some s39.2.2))

def regalloc_points_l1 (K : Nat) (a0 : VFunc) (r2 : (List (List Int)) × (List (List Int))) : Nat → (Int × (List (List (List Int)))) → Option (List (List (List Int)))
  | 0, _ => none
  | k + 1, s9 => (cnd (decide (s9.1 < ((a0.Blocks).length : Int))) (Option.bind (idx a0.Blocks s9.1) (fun y12 => (Option.bind (mk 24 (w64 (((y12.Instrs).length : Int) + 2)) ([] : List Int)) (fun l15 => (Option.bind (idx r2.2 s9.1) (fun y18 => (Option.bind (idx l15 (w64 (((y12.Instrs).length : Int) + 1))) (fun y20 => (Option.bind (cnd ((y12.End == 2) || (y12.End == 3)) (Option.bind (regalloc_insert K y18 y12.Reg) (fun r29 => (some r29))) (some y18)) (fun s22 => (Option.bind (idx (l15.set (w64 (((y12.Instrs).length : Int) + 1)).toNat y18) ((y12.Instrs).length : Int)) (fun y32 => (Option.bind (regalloc_points_l2 K y12 K (s22, (w64 (((y12.Instrs).length : Int) - 1)), ((l15.set (w64 (((y12.Instrs).length : Int) + 1)).toNat y18).set ((y12.Instrs).length : Int).toNat s22))) (fun s34 => (Option.bind (app 24 s9.2 ([s34] : List (List (List Int)))) (fun l84 => (regalloc_points_l1 K a0 r2 k ((w64 (s9.1 + 1)), l84)))))))))))))))))) (some s9.2))

def regalloc_points (K : Nat) (a0 : VFunc) : Option (List (List (List Int))) :=
  (Option.bind (liveness_Blocks K a0) (fun r2 => (Option.bind (regalloc_points_l1 K a0 r2 K (0, ([] : List (List (List Int))))) (fun s4 => (some s4)))))

theorem c_regalloc_points (K : Nat) (a0 : VFunc) (r : (List (List (List Int)))) (h : regalloc_points K a0 = some r) : CallP Tryd.prog glob 91 [(Ty.agg [(tI a0.Params), (tI a0.Regs), (tL 5 Block.ty a0.Blocks)])] (tL 1 ls_SSI r) := by
  refine call_of_code Tryd.func91 rfl Tryd.ntmps91 rfl (fun L w => ?_)
  change OkC _ _ _ [(0, (Ty.agg [(tI a0.Params), (tI a0.Regs), (tL 5 Block.ty a0.Blocks)]))] (L)
  unfold regalloc_points at h
  refine okC_seq ?_
  refine okC_region ?_
  refine okL_stepO 1 rfl rfl (doesO_box [(tI a0.Params), (tI a0.Regs), (tL 5 Block.ty a0.Blocks)] rfl (part_agg _) (fun g1 => ?_))
  refine okL_step 2 (Ty.val (.slice none 0 0)) rfl rfl (does_assign rfl) ?_
  refine okL_nil ?_
  refine okX_next ?_
  refine okC_seq ?_
  refine okC_region ?_
  refine okL_step 16 (Ty.agg [(tI a0.Params), (tI a0.Regs), (tL 5 Block.ty a0.Blocks)]) rfl rfl (does_loadBA [(tI a0.Params), (tI a0.Regs), (tL 5 Block.ty a0.Blocks)] Tryd.isAgg27 Tryd.sizeOf27 rfl 0 rfl rfl rfl) ?_
  obtain ⟨r2, hc3, h⟩ := bs h
  refine okL_step 17 (Ty.tup [(tL 1 lIs r2.1), (tL 1 lIs r2.2)]) rfl rfl (does_call0 (c_liveness_Blocks K a0 r2 hc3) rfl Tryd.call22 rfl) ?_
  refine okL_step 15 (Ty.tup [(tL 1 lIs r2.1), (tL 1 lIs r2.2)]) rfl rfl (does_move rfl) ?_
  refine okL_step 18 (tL 1 lIs r2.1) rfl rfl (does_extract rfl rfl) ?_
  refine okL_step 19 (tL 1 lIs r2.2) rfl rfl (does_extract rfl rfl) ?_
  refine okL_step 3 (tL 1 lIs r2.1) rfl rfl (does_assign rfl) ?_
  refine okL_step 4 (tL 1 lIs r2.2) rfl rfl (does_assign rfl) ?_
  refine okL_nil ?_
  refine okX_next ?_
  refine okC_seq ?_
  refine okC_region ?_
  refine okL_step 5 (Ty.val (.slice none 0 0)) rfl rfl (does_assign rfl) ?_
  refine okL_nil ?_
  refine okX_next ?_
  refine okC_seq ?_
  refine okC_seq ?_
  refine okC_region ?_
  refine okL_step 20 (pAt g1 2) rfl rfl (does_fieldAddrP 2 Tryd.underlying27 rfl Tryd.sizeOf25 rfl rfl) ?_
  refine okL_step 21 (tL 5 Block.ty a0.Blocks) rfl rfl (does_loadB1 Tryd.isAgg25 rfl 0 rfl rfl) ?_
  refine okL_step 22 (tI ((a0.Blocks).length : Int)) rfl rfl (does_len (sz := 5) (f := Block.ty) (l := a0.Blocks) rfl Tryd.underlying25 rfl) ?_
  refine okL_step 23 (tI 0) rfl rfl (does_move rfl) ?_
  refine okL_nil ?_
  refine okX_next ?_
  refine okC_nilrow (sz := 1) ls_SSI 22 5 rfl ?_
  obtain ⟨z6, h8, hz7⟩ := bs h
  refine okC_meetE (X := ((List (List (List Int))) × Value)) (fun x => z6 = x.1) (fun x : ((List (List (List Int))) × Value) => [(5, (Ty.own x.2))]) (fun x : ((List (List (List Int))) × Value) => rowL x.2 22 1 ls_SSI x.1 :: Item.blk g1 27 [(tI a0.Params), (tI a0.Regs), (tL 5 Block.ty a0.Blocks)] :: L) ?_ ?_
  · refine okC_block ?_
    refine okC_loop (X := ((Int × (List (List (List Int)))) × Value)) (fun k x => regalloc_points_l1 K a0 r2 k x.1 = some z6) (fun x : ((Int × (List (List (List Int)))) × Value) => [(4, (tL 1 lIs r2.2)), (5, (Ty.own x.2)), (21, (tL 5 Block.ty a0.Blocks)), (22, (tI ((a0.Blocks).length : Int))), (23, (tI x.1.1))]) (fun x : ((Int × (List (List (List Int)))) × Value) => rowL x.2 22 1 ls_SSI x.1.2 :: Item.blk g1 27 [(tI a0.Params), (tI a0.Regs), (tL 5 Block.ty a0.Blocks)] :: L) K ((0, ([] : List (List (List Int)))), (.slice none 0 0)) h8 (cc rfl (cc rfl (cc rfl (cc rfl (cc rfl cn))))) rfl (fun k x hI => ?_)
    obtain ⟨s9, w10⟩ := x
    change OkC _ _ _ [(4, (tL 1 lIs r2.2)), (5, (Ty.own w10)), (21, (tL 5 Block.ty a0.Blocks)), (22, (tI ((a0.Blocks).length : Int))), (23, (tI s9.1))] (rowL w10 22 1 ls_SSI s9.2 :: Item.blk g1 27 [(tI a0.Params), (tI a0.Regs), (tL 5 Block.ty a0.Blocks)] :: L)
    cases k with
    | zero => exact (nz hI).elim
    | succ k =>
      have h : regalloc_points_l1 K a0 r2 (k + 1) s9 = some z6 := hI
      rw [regalloc_points_l1.eq_2] at h
      refine okC_seq ?_
      refine okC_region ?_
      refine okL_step 24 (tB (decide (s9.1 < ((a0.Blocks).length : Int)))) rfl rfl (does_lss rfl rfl) ?_
      refine okL_nil ?_
      refine okX_next ?_
      refine okC_seq ?_
      refine okC_cond (b := (decide (s9.1 < ((a0.Blocks).length : Int)))) rfl (fun hb11 => ?_) (fun hb11 => ?_)
      · replace h := ct hb11 h
        refine okC_skip ?_
        refine okX_next ?_
        refine okC_seq ?_
        refine okC_block ?_
        refine okC_seq ?_
        refine okC_region ?_
        refine okL_step 25 (tI s9.1) rfl rfl (does_move rfl) ?_
        obtain ⟨y12, hi13, h⟩ := bs h
        refine okL_step 26 (Ty.ptr [(tL 6 VInstr.ty y12.Instrs), (tI y12.End), (tI y12.Reg), (tI y12.Target), (tI y12.Else)]) rfl rfl (does_index (sz := 5) (f := Block.ty) (l := a0.Blocks) (n := s9.1) y12 Tryd.underlying25 Tryd.sizeOf43 hi13 rfl rfl) ?_
        refine okL_step 27 (Ty.agg [(tL 6 VInstr.ty y12.Instrs), (tI y12.End), (tI y12.Reg), (tI y12.Target), (tI y12.Else)]) rfl rfl (does_loadA [(tL 6 VInstr.ty y12.Instrs), (tI y12.End), (tI y12.Reg), (tI y12.Target), (tI y12.Else)] Tryd.isAgg43 Tryd.sizeOf43 rfl rfl rfl) ?_
        refine okL_stepO 7 rfl rfl (doesO_alloc [(Ty.val (.slice none 0 0)), (tI 0), (tI 0), (tI 0), (tI 0)] Tryd.zeroValue43 (part_of (sub_agg [(.slice none 0 0), (.int .i64 0), (.int .i64 0), (.int .i64 0), (.int .i64 0)] rfl) (part_agg _)) (fun g14 => ?_))
        refine okL_step 6 (tI s9.1) rfl rfl (does_assign rfl) ?_
        refine okL_stepU rfl (doesO_storeB (ps := [(tL 6 VInstr.ty y12.Instrs), (tI y12.End), (tI y12.Reg), (tI y12.Target), (tI y12.Else)]) 0 [(tL 6 VInstr.ty y12.Instrs), (tI y12.End), (tI y12.Reg), (tI y12.Target), (tI y12.Else)] (Item.blk g14 43 [(tL 6 VInstr.ty y12.Instrs), (tI y12.End), (tI y12.Reg), (tI y12.Target), (tI y12.Else)] :: rowL w10 22 1 ls_SSI s9.2 :: Item.blk g1 27 [(tI a0.Params), (tI a0.Regs), (tL 5 Block.ty a0.Blocks)] :: L) rfl rfl (part_agg _) Tryd.sizeOf43 rfl rfl rfl rfl ?_)
        refine okL_nil ?_
        refine okX_next ?_
        refine okC_seq ?_
        refine okC_region ?_
        refine okL_step 28 (pAt g14 0) rfl rfl (does_fieldAddrP 0 Tryd.underlying43 rfl Tryd.sizeOf41 rfl rfl) ?_
        refine okL_step 29 (tL 6 VInstr.ty y12.Instrs) rfl rfl (does_loadB1 Tryd.isAgg41 rfl 0 rfl rfl) ?_
        refine okL_step 30 (tI ((y12.Instrs).length : Int)) rfl rfl (does_len (sz := 6) (f := VInstr.ty) (l := y12.Instrs) rfl Tryd.underlying41 rfl) ?_
        refine okL_step 31 (tI (w64 (((y12.Instrs).length : Int) + 2))) rfl rfl (does_add rfl rfl) ?_
        obtain ⟨l15, hm16, h⟩ := bs h
        refine okL_stepO 32 rfl rfl (doesO_make (f := lIs) el22 ([] : List Int) l15 hm16 rfl rfl (part_sub (part_one (one_val rfl)) (.cons (sub_nil _) SubL.nil)) (fun v17 => ?_))
        refine okL_step 8 (Ty.own v17) rfl rfl (does_assign rfl) ?_
        refine okL_nil ?_
        refine okX_next ?_
        refine okC_seq ?_
        refine okC_region ?_
        refine okL_step 33 (tL 1 lIs r2.2) rfl rfl (does_move rfl) ?_
        refine okL_step 34 (tI s9.1) rfl rfl (does_move rfl) ?_
        obtain ⟨y18, hi19, h⟩ := bs h
        refine okL_step 35 (Ty.ptr [(tL 1 lI y18)]) rfl rfl (does_index (sz := 1) (f := lIs) (l := r2.2) (n := s9.1) y18 Tryd.underlying22 Tryd.sizeOf31 hi19 rfl rfl) ?_
        refine okL_step 36 (tL 1 lI y18) rfl rfl (does_load1 Tryd.isAgg31 rfl) ?_
        refine okL_step 9 (tL 1 lI y18) rfl rfl (does_assign rfl) ?_
        refine okL_nil ?_
        refine okX_next ?_
        refine okC_seq ?_
        refine okC_region ?_
        refine okL_step 37 (Ty.own v17) rfl rfl (does_move rfl) ?_
        refine okL_step 38 (pAt g14 0) rfl rfl (does_fieldAddrP 0 Tryd.underlying43 rfl Tryd.sizeOf41 rfl rfl) ?_
        refine okL_step 39 (tL 6 VInstr.ty y12.Instrs) rfl rfl (does_loadB1 Tryd.isAgg41 rfl 1 rfl rfl) ?_
        refine okL_step 40 (tI ((y12.Instrs).length : Int)) rfl rfl (does_len (sz := 6) (f := VInstr.ty) (l := y12.Instrs) rfl Tryd.underlying41 rfl) ?_
        refine okL_step 41 (tI (w64 (((y12.Instrs).length : Int) + 1))) rfl rfl (does_add rfl rfl) ?_
        refine okL_step 42 (tL 1 lI y18) rfl rfl (does_move rfl) ?_
        obtain ⟨y20, hi21, h⟩ := bs h
        refine okL_step 43 (Ty.rptr v17 ((w64 (((y12.Instrs).length : Int) + 1)).toNat * 1)) rfl rfl (does_indexR (f := lIs) (l := l15) (m := (w64 (((y12.Instrs).length : Int) + 1))) el22 0 y20 hi21 rfl rfl rfl) ?_
        refine okL_stepU rfl (doesO_storeR (f := lIs) (l := l15) (sz := 1) (ps := [(tL 1 lI y18)]) (y0 := y20) (y1 := y18) (m := (w64 (((y12.Instrs).length : Int) + 1))) 0 0 (l15.set (w64 (((y12.Instrs).length : Int) + 1)).toNat y18) (rowL v17 31 1 lIs (l15.set (w64 (((y12.Instrs).length : Int) + 1)).toNat y18) :: Item.blk g14 43 [(tL 6 VInstr.ty y12.Instrs), (tI y12.End), (tI y12.Reg), (tI y12.Target), (tI y12.Else)] :: rowL w10 22 1 ls_SSI s9.2 :: Item.blk g1 27 [(tI a0.Params), (tI a0.Regs), (tL 5 Block.ty a0.Blocks)] :: L) rfl rfl (part_one (one_slice _ _)) Tryd.sizeOf31 rfl hi21 rfl rfl rfl rfl rfl ?_)
        refine okL_nil ?_
        refine okX_next ?_
        obtain ⟨z24, h26, hz25⟩ := bs h
        refine okC_meet (X := (List Int)) (fun x => z24 = x) (fun x : (List Int) => [(4, (tL 1 lIs r2.2)), (5, (Ty.own w10)), (7, (pAt g14 0)), (8, (Ty.own v17)), (9, (tL 1 lI x)), (21, (tL 5 Block.ty a0.Blocks)), (22, (tI ((a0.Blocks).length : Int))), (23, (tI s9.1))]) (fun x : (List Int) => rowL v17 31 1 lIs (l15.set (w64 (((y12.Instrs).length : Int) + 1)).toNat y18) :: Item.blk g14 43 [(tL 6 VInstr.ty y12.Instrs), (tI y12.End), (tI y12.Reg), (tI y12.Target), (tI y12.Else)] :: rowL w10 22 1 ls_SSI s9.2 :: Item.blk g1 27 [(tI a0.Params), (tI a0.Regs), (tL 5 Block.ty a0.Blocks)] :: L) ?_ ?_
        · refine okC_seq ?_
          refine okC_region ?_
          refine okL_step 44 (pAt g14 1) rfl rfl (does_fieldAddrP 1 Tryd.underlying43 rfl Tryd.sizeOf3 rfl rfl) ?_
          refine okL_step 45 (tI y12.End) rfl rfl (does_loadB1 Tryd.isAgg3 rfl 1 rfl rfl) ?_
          refine okL_step 46 (tB (y12.End == 2)) rfl rfl (does_eql rfl rfl) ?_
          refine okL_step 47 (tB (y12.End == 2)) rfl rfl (does_move rfl) ?_
          refine okL_meet (X := Bool) 4 (fun x => x = ((y12.End == 2) || (y12.End == 3))) (fun x : Bool => [(4, (tL 1 lIs r2.2)), (5, (Ty.own w10)), (7, (pAt g14 0)), (8, (Ty.own v17)), (9, (tL 1 lI y18)), (21, (tL 5 Block.ty a0.Blocks)), (22, (tI ((a0.Blocks).length : Int))), (23, (tI s9.1)), (51, (tB x))]) (fun x : Bool => rowL v17 31 1 lIs (l15.set (w64 (((y12.Instrs).length : Int) + 1)).toNat y18) :: Item.blk g14 43 [(tL 6 VInstr.ty y12.Instrs), (tI y12.End), (tI y12.Reg), (tI y12.Target), (tI y12.Else)] :: rowL w10 22 1 ls_SSI s9.2 :: Item.blk g1 27 [(tI a0.Params), (tI a0.Regs), (tL 5 Block.ty a0.Blocks)] :: L) _ rfl ?_ ?_
          · refine okL_split (y12.End == 2) (fun hb27 => ?_) (fun hb27 => ?_)
            · refine okL_skip 48 47 (y12.End == 2) rfl rfl hb27 rfl rfl ?_
              refine okL_skip 49 47 (y12.End == 2) rfl rfl hb27 rfl rfl ?_
              refine okL_skip 50 47 (y12.End == 2) rfl rfl hb27 rfl rfl ?_
              refine okL_step 51 (tB true) rfl rfl (does_pick_t (y12.End == 2) rfl hb27 rfl) ?_
              refine okL_nil ?_
              exact okX_meet (I := _) true (or_t hb27) (cc rfl (cc rfl (cc rfl (cc rfl (cc rfl (cc rfl (cc rfl (cc rfl (cc rfl cn))))))))) rfl
            · refine okL_guard 48 (pAt g14 1) 47 (y12.End == 2) rfl rfl hb27 rfl rfl (does_fieldAddrP 1 Tryd.underlying43 rfl Tryd.sizeOf3 rfl rfl) ?_
              refine okL_guard 49 (tI y12.End) 47 (y12.End == 2) rfl rfl hb27 rfl rfl (does_loadB1 Tryd.isAgg3 rfl 1 rfl rfl) ?_
              refine okL_guard 50 (tB (y12.End == 3)) 47 (y12.End == 2) rfl rfl hb27 rfl rfl (does_eql rfl rfl) ?_
              refine okL_step 51 (tB (y12.End == 3)) rfl rfl (does_pick_f (y12.End == 2) rfl hb27 rfl) ?_
              refine okL_nil ?_
              exact okX_meet (I := _) (y12.End == 3) (or_f hb27) (cc rfl (cc rfl (cc rfl (cc rfl (cc rfl (cc rfl (cc rfl (cc rfl (cc rfl cn))))))))) rfl
          · intro x31 hx
            subst hx
            change OkL _ _ _ _ [(4, (tL 1 lIs r2.2)), (5, (Ty.own w10)), (7, (pAt g14 0)), (8, (Ty.own v17)), (9, (tL 1 lI y18)), (21, (tL 5 Block.ty a0.Blocks)), (22, (tI ((a0.Blocks).length : Int))), (23, (tI s9.1)), (51, (tB ((y12.End == 2) || (y12.End == 3))))] (rowL v17 31 1 lIs (l15.set (w64 (((y12.Instrs).length : Int) + 1)).toNat y18) :: Item.blk g14 43 [(tL 6 VInstr.ty y12.Instrs), (tI y12.End), (tI y12.Reg), (tI y12.Target), (tI y12.Else)] :: rowL w10 22 1 ls_SSI s9.2 :: Item.blk g1 27 [(tI a0.Params), (tI a0.Regs), (tL 5 Block.ty a0.Blocks)] :: L)
            refine okL_nil ?_
            refine okX_next ?_
            refine okC_cond (b := ((y12.End == 2) || (y12.End == 3))) rfl (fun hb28 => ?_) (fun hb28 => ?_)
            · replace h26 := ct hb28 h26
              refine okC_region ?_
              refine okL_step 52 (tL 1 lI y18) rfl rfl (does_move rfl) ?_
              refine okL_step 53 (pAt g14 2) rfl rfl (does_fieldAddrP 2 Tryd.underlying43 rfl Tryd.sizeOf3 rfl rfl) ?_
              refine okL_step 54 (tI y12.Reg) rfl rfl (does_loadB1 Tryd.isAgg3 rfl 1 rfl rfl) ?_
              obtain ⟨r29, hc30, h26⟩ := bs h26
              refine okL_step 55 (tL 1 lI r29) rfl rfl (does_call0 (c_regalloc_insert K y18 y12.Reg r29 hc30) rfl Tryd.call114 rfl) ?_
              refine okL_step 9 (tL 1 lI r29) rfl rfl (does_assign rfl) ?_
              refine okL_nil ?_
              exact okX_meet (I := _) r29 (smh h26) (cc rfl (cc rfl (cc rfl (cc rfl (cc rfl (cc rfl (cc rfl (cc rfl cn)))))))) rfl
            · replace h26 := cf hb28 h26
              refine okC_skip ?_
              exact okX_meet (I := _) y18 (smh h26) (cc rfl (cc rfl (cc rfl (cc rfl (cc rfl (cc rfl (cc rfl (cc rfl cn)))))))) rfl
        · intro s22 hx
          change OkC _ _ _ [(4, (tL 1 lIs r2.2)), (5, (Ty.own w10)), (7, (pAt g14 0)), (8, (Ty.own v17)), (9, (tL 1 lI s22)), (21, (tL 5 Block.ty a0.Blocks)), (22, (tI ((a0.Blocks).length : Int))), (23, (tI s9.1))] (rowL v17 31 1 lIs (l15.set (w64 (((y12.Instrs).length : Int) + 1)).toNat y18) :: Item.blk g14 43 [(tL 6 VInstr.ty y12.Instrs), (tI y12.End), (tI y12.Reg), (tI y12.Target), (tI y12.Else)] :: rowL w10 22 1 ls_SSI s9.2 :: Item.blk g1 27 [(tI a0.Params), (tI a0.Regs), (tL 5 Block.ty a0.Blocks)] :: L)
          obtain rfl : s22 = z24 := hx.symm
          replace h := hz25
          refine okC_seq ?_
          refine okC_region ?_
          refine okL_step 56 (Ty.own v17) rfl rfl (does_move rfl) ?_
          refine okL_step 57 (pAt g14 0) rfl rfl (does_fieldAddrP 0 Tryd.underlying43 rfl Tryd.sizeOf41 rfl rfl) ?_
          refine okL_step 58 (tL 6 VInstr.ty y12.Instrs) rfl rfl (does_loadB1 Tryd.isAgg41 rfl 1 rfl rfl) ?_
          refine okL_step 59 (tI ((y12.Instrs).length : Int)) rfl rfl (does_len (sz := 6) (f := VInstr.ty) (l := y12.Instrs) rfl Tryd.underlying41 rfl) ?_
          refine okL_step 60 (tL 1 lI s22) rfl rfl (does_move rfl) ?_
          obtain ⟨y32, hi33, h⟩ := bs h
          refine okL_step 61 (Ty.rptr v17 (((y12.Instrs).length : Int).toNat * 1)) rfl rfl (does_indexR (f := lIs) (l := (l15.set (w64 (((y12.Instrs).length : Int) + 1)).toNat y18)) (m := ((y12.Instrs).length : Int)) el22 0 y32 hi33 rfl rfl rfl) ?_
          refine okL_stepU rfl (doesO_storeR (f := lIs) (l := (l15.set (w64 (((y12.Instrs).length : Int) + 1)).toNat y18)) (sz := 1) (ps := [(tL 1 lI s22)]) (y0 := y32) (y1 := s22) (m := ((y12.Instrs).length : Int)) 0 0 ((l15.set (w64 (((y12.Instrs).length : Int) + 1)).toNat y18).set ((y12.Instrs).length : Int).toNat s22) (rowL v17 31 1 lIs ((l15.set (w64 (((y12.Instrs).length : Int) + 1)).toNat y18).set ((y12.Instrs).length : Int).toNat s22) :: Item.blk g14 43 [(tL 6 VInstr.ty y12.Instrs), (tI y12.End), (tI y12.Reg), (tI y12.Target), (tI y12.Else)] :: rowL w10 22 1 ls_SSI s9.2 :: Item.blk g1 27 [(tI a0.Params), (tI a0.Regs), (tL 5 Block.ty a0.Blocks)] :: L) rfl rfl (part_one (one_slice _ _)) Tryd.sizeOf31 rfl hi33 rfl rfl rfl rfl rfl ?_)
          refine okL_nil ?_
          refine okX_next ?_
          refine okC_seq ?_
          refine okC_seq ?_
          refine okC_region ?_
          refine okL_step 62 (pAt g14 0) rfl rfl (does_fieldAddrP 0 Tryd.underlying43 rfl Tryd.sizeOf41 rfl rfl) ?_
          refine okL_step 63 (tL 6 VInstr.ty y12.Instrs) rfl rfl (does_loadB1 Tryd.isAgg41 rfl 1 rfl rfl) ?_
          refine okL_step 64 (tI ((y12.Instrs).length : Int)) rfl rfl (does_len (sz := 6) (f := VInstr.ty) (l := y12.Instrs) rfl Tryd.underlying41 rfl) ?_
          refine okL_step 65 (tI (w64 (((y12.Instrs).length : Int) - 1))) rfl rfl (does_sub rfl rfl) ?_
          refine okL_step 10 (tI (w64 (((y12.Instrs).length : Int) - 1))) rfl rfl (does_assign rfl) ?_
          refine okL_nil ?_
          refine okX_next ?_
          obtain ⟨z36, h38, hz37⟩ := bs h
          refine okC_meetE (X := (List (List Int))) (fun x => z36 = x) (fun x : (List (List Int)) => [(4, (tL 1 lIs r2.2)), (5, (Ty.own w10)), (8, (Ty.own v17)), (21, (tL 5 Block.ty a0.Blocks)), (22, (tI ((a0.Blocks).length : Int))), (23, (tI s9.1))]) (fun x : (List (List Int)) => rowL v17 31 1 lIs x :: Item.blk g14 43 [(tL 6 VInstr.ty y12.Instrs), (tI y12.End), (tI y12.Reg), (tI y12.Target), (tI y12.Else)] :: rowL w10 22 1 ls_SSI s9.2 :: Item.blk g1 27 [(tI a0.Params), (tI a0.Regs), (tL 5 Block.ty a0.Blocks)] :: L) ?_ ?_
          · refine okC_block ?_
            refine okC_loop (X := ((List Int) × Int × (List (List Int)))) (fun k x => regalloc_points_l2 K y12 k x = some z36) (fun x : ((List Int) × Int × (List (List Int))) => [(4, (tL 1 lIs r2.2)), (5, (Ty.own w10)), (7, (pAt g14 0)), (8, (Ty.own v17)), (9, (tL 1 lI x.1)), (10, (tI x.2.1)), (21, (tL 5 Block.ty a0.Blocks)), (22, (tI ((a0.Blocks).length : Int))), (23, (tI s9.1))]) (fun x : ((List Int) × Int × (List (List Int))) => rowL v17 31 1 lIs x.2.2 :: Item.blk g14 43 [(tL 6 VInstr.ty y12.Instrs), (tI y12.End), (tI y12.Reg), (tI y12.Target), (tI y12.Else)] :: rowL w10 22 1 ls_SSI s9.2 :: Item.blk g1 27 [(tI a0.Params), (tI a0.Regs), (tL 5 Block.ty a0.Blocks)] :: L) K (s22, (w64 (((y12.Instrs).length : Int) - 1)), ((l15.set (w64 (((y12.Instrs).length : Int) + 1)).toNat y18).set ((y12.Instrs).length : Int).toNat s22)) h38 (cc rfl (cc rfl (cc rfl (cc rfl (cc rfl (cc rfl (cc rfl (cc rfl (cc rfl cn))))))))) rfl (fun k s39 hI => ?_)
            change OkC _ _ _ [(4, (tL 1 lIs r2.2)), (5, (Ty.own w10)), (7, (pAt g14 0)), (8, (Ty.own v17)), (9, (tL 1 lI s39.1)), (10, (tI s39.2.1)), (21, (tL 5 Block.ty a0.Blocks)), (22, (tI ((a0.Blocks).length : Int))), (23, (tI s9.1))] (rowL v17 31 1 lIs s39.2.2 :: Item.blk g14 43 [(tL 6 VInstr.ty y12.Instrs), (tI y12.End), (tI y12.Reg), (tI y12.Target), (tI y12.Else)] :: rowL w10 22 1 ls_SSI s9.2 :: Item.blk g1 27 [(tI a0.Params), (tI a0.Regs), (tL 5 Block.ty a0.Blocks)] :: L)
            cases k with
            | zero => exact (nz hI).elim
            | succ k =>
              have h : regalloc_points_l2 K y12 (k + 1) s39 = some z36 := hI
              rw [regalloc_points_l2.eq_2] at h
              refine okC_seq ?_
              refine okC_seq ?_
              refine okC_region ?_
              refine okL_step 66 (tI s39.2.1) rfl rfl (does_move rfl) ?_
              refine okL_step 67 (tB (decide (s39.2.1 ≥ 0))) rfl rfl (does_geq rfl rfl) ?_
              refine okL_nil ?_
              refine okX_next ?_
              refine okC_cond (b := (decide (s39.2.1 ≥ 0))) rfl (fun hb41 => ?_) (fun hb41 => ?_)
              · replace h := ct hb41 h
                refine okC_skip ?_
                refine okX_next ?_
                refine okC_seq ?_
                refine okC_block ?_
                refine okC_seq ?_
                refine okC_seq ?_
                refine okC_region ?_
                refine okL_step 70 (pAt g14 0) rfl rfl (does_fieldAddrP 0 Tryd.underlying43 rfl Tryd.sizeOf41 rfl rfl) ?_
                refine okL_step 71 (tL 6 VInstr.ty y12.Instrs) rfl rfl (does_loadB1 Tryd.isAgg41 rfl 1 rfl rfl) ?_
                refine okL_step 72 (tI s39.2.1) rfl rfl (does_move rfl) ?_
                obtain ⟨y42, hi43, h⟩ := bs h
                refine okL_step 73 (Ty.ptr [(tI y42.Instr.Op), (tI y42.Instr.A), (tI y42.Instr.B), (tI y42.Instr.C), (tI y42.Instr.N), (tL 1 lI y42.Args)]) rfl rfl (does_index (sz := 6) (f := VInstr.ty) (l := y12.Instrs) (n := s39.2.1) y42 Tryd.underlying41 Tryd.sizeOf48 hi43 rfl rfl) ?_
                refine okL_step 74 (Ty.agg [(tI y42.Instr.Op), (tI y42.Instr.A), (tI y42.Instr.B), (tI y42.Instr.C), (tI y42.Instr.N), (tL 1 lI y42.Args)]) rfl rfl (does_loadA [(tI y42.Instr.Op), (tI y42.Instr.A), (tI y42.Instr.B), (tI y42.Instr.C), (tI y42.Instr.N), (tL 1 lI y42.Args)] Tryd.isAgg48 Tryd.sizeOf48 rfl rfl rfl) ?_
                obtain ⟨r44, hc45, h⟩ := bs h
                refine okL_step 75 (tL 1 lI r44) rfl rfl (does_call0 (c_vcode_Writes y42 r44 hc45) rfl Tryd.call96 rfl) ?_
                refine okL_step 76 (tI ((r44).length : Int)) rfl rfl (does_len (sz := 1) (f := lI) (l := r44) rfl Tryd.underlying31 rfl) ?_
                refine okL_step 77 (tI 0) rfl rfl (does_move rfl) ?_
                refine okL_nil ?_
                refine okX_next ?_
                obtain ⟨z48, h50, hz49⟩ := bs h
                refine okC_meetE (X := (List Int)) (fun x => z48 = x) (fun x : (List Int) => [(4, (tL 1 lIs r2.2)), (5, (Ty.own w10)), (7, (pAt g14 0)), (8, (Ty.own v17)), (9, (tL 1 lI x)), (10, (tI s39.2.1)), (21, (tL 5 Block.ty a0.Blocks)), (22, (tI ((a0.Blocks).length : Int))), (23, (tI s9.1))]) (fun x : (List Int) => rowL v17 31 1 lIs s39.2.2 :: Item.blk g14 43 [(tL 6 VInstr.ty y12.Instrs), (tI y12.End), (tI y12.Reg), (tI y12.Target), (tI y12.Else)] :: rowL w10 22 1 ls_SSI s9.2 :: Item.blk g1 27 [(tI a0.Params), (tI a0.Regs), (tL 5 Block.ty a0.Blocks)] :: L) ?_ ?_
                · refine okC_block ?_
                  refine okC_loop (X := ((List Int) × Int)) (fun k x => regalloc_points_l3 K r44 k x = some z48) (fun x : ((List Int) × Int) => [(4, (tL 1 lIs r2.2)), (5, (Ty.own w10)), (7, (pAt g14 0)), (8, (Ty.own v17)), (9, (tL 1 lI x.1)), (10, (tI s39.2.1)), (21, (tL 5 Block.ty a0.Blocks)), (22, (tI ((a0.Blocks).length : Int))), (23, (tI s9.1)), (75, (tL 1 lI r44)), (76, (tI ((r44).length : Int))), (77, (tI x.2))]) (fun x : ((List Int) × Int) => rowL v17 31 1 lIs s39.2.2 :: Item.blk g14 43 [(tL 6 VInstr.ty y12.Instrs), (tI y12.End), (tI y12.Reg), (tI y12.Target), (tI y12.Else)] :: rowL w10 22 1 ls_SSI s9.2 :: Item.blk g1 27 [(tI a0.Params), (tI a0.Regs), (tL 5 Block.ty a0.Blocks)] :: L) K (s39.1, 0) h50 (cc rfl (cc rfl (cc rfl (cc rfl (cc rfl (cc rfl (cc rfl (cc rfl (cc rfl (cc rfl (cc rfl (cc rfl cn)))))))))))) rfl (fun k s51 hI => ?_)
                  change OkC _ _ _ [(4, (tL 1 lIs r2.2)), (5, (Ty.own w10)), (7, (pAt g14 0)), (8, (Ty.own v17)), (9, (tL 1 lI s51.1)), (10, (tI s39.2.1)), (21, (tL 5 Block.ty a0.Blocks)), (22, (tI ((a0.Blocks).length : Int))), (23, (tI s9.1)), (75, (tL 1 lI r44)), (76, (tI ((r44).length : Int))), (77, (tI s51.2))] (rowL v17 31 1 lIs s39.2.2 :: Item.blk g14 43 [(tL 6 VInstr.ty y12.Instrs), (tI y12.End), (tI y12.Reg), (tI y12.Target), (tI y12.Else)] :: rowL w10 22 1 ls_SSI s9.2 :: Item.blk g1 27 [(tI a0.Params), (tI a0.Regs), (tL 5 Block.ty a0.Blocks)] :: L)
                  cases k with
                  | zero => exact (nz hI).elim
                  | succ k =>
                    have h : regalloc_points_l3 K r44 (k + 1) s51 = some z48 := hI
                    rw [regalloc_points_l3.eq_2] at h
                    refine okC_seq ?_
                    refine okC_region ?_
                    refine okL_step 78 (tB (decide (s51.2 < ((r44).length : Int)))) rfl rfl (does_lss rfl rfl) ?_
                    refine okL_nil ?_
                    refine okX_next ?_
                    refine okC_seq ?_
                    refine okC_cond (b := (decide (s51.2 < ((r44).length : Int)))) rfl (fun hb53 => ?_) (fun hb53 => ?_)
                    · replace h := ct hb53 h
                      refine okC_skip ?_
                      refine okX_next ?_
                      obtain ⟨z56, h58, hz57⟩ := bs h
                      refine okC_meet (X := (List Int)) (fun x => z56 = x) (fun x : (List Int) => [(4, (tL 1 lIs r2.2)), (5, (Ty.own w10)), (7, (pAt g14 0)), (8, (Ty.own v17)), (9, (tL 1 lI x)), (10, (tI s39.2.1)), (21, (tL 5 Block.ty a0.Blocks)), (22, (tI ((a0.Blocks).length : Int))), (23, (tI s9.1)), (75, (tL 1 lI r44)), (76, (tI ((r44).length : Int))), (77, (tI s51.2))]) (fun x : (List Int) => rowL v17 31 1 lIs s39.2.2 :: Item.blk g14 43 [(tL 6 VInstr.ty y12.Instrs), (tI y12.End), (tI y12.Reg), (tI y12.Target), (tI y12.Else)] :: rowL w10 22 1 ls_SSI s9.2 :: Item.blk g1 27 [(tI a0.Params), (tI a0.Regs), (tL 5 Block.ty a0.Blocks)] :: L) ?_ ?_
                      · refine okC_block ?_
                        refine okC_seq ?_
                        refine okC_region ?_
                        obtain ⟨y59, hi60, h58⟩ := bs h58
                        refine okL_step 79 (Ty.ptr [(tI y59)]) rfl rfl (does_index (sz := 1) (f := lI) (l := r44) (n := s51.2) y59 Tryd.underlying31 Tryd.sizeOf3 hi60 rfl rfl) ?_
                        refine okL_step 80 (tI y59) rfl rfl (does_load1 Tryd.isAgg3 rfl) ?_
                        refine okL_step 12 (tI y59) rfl rfl (does_assign rfl) ?_
                        refine okL_nil ?_
                        refine okX_next ?_
                        refine okC_seq ?_
                        refine okC_region ?_
                        refine okL_step 81 (tL 1 lI s51.1) rfl rfl (does_move rfl) ?_
                        refine okL_step 82 (tI y59) rfl rfl (does_move rfl) ?_
                        obtain ⟨r61, hc62, h58⟩ := bs h58
                        refine okL_step 83 (tB r61) rfl rfl (does_call0 (c_regalloc_contains K s51.1 y59 r61 hc62) rfl Tryd.call115 rfl) ?_
                        refine okL_nil ?_
                        refine okX_next ?_
                        refine okC_cond (b := r61) rfl (fun hb63 => ?_) (fun hb63 => ?_)
                        · replace h58 := ct hb63 h58
                          refine okC_region ?_
                          refine okL_step 84 (tL 1 lI s51.1) rfl rfl (does_move rfl) ?_
                          refine okL_step 85 (tI y59) rfl rfl (does_move rfl) ?_
                          obtain ⟨r64, hc65, h58⟩ := bs h58
                          refine okL_step 86 (tL 1 lI r64) rfl rfl (does_call0 (c_regalloc_without K s51.1 y59 r64 hc65) rfl Tryd.call116 rfl) ?_
                          refine okL_step 9 (tL 1 lI r64) rfl rfl (does_assign rfl) ?_
                          refine okL_nil ?_
                          refine okX_block_normal ?_
                          exact okX_meet (I := _) r64 (smh h58) (cc rfl (cc rfl (cc rfl (cc rfl (cc rfl (cc rfl (cc rfl (cc rfl (cc rfl (cc rfl (cc rfl (cc rfl cn)))))))))))) rfl
                        · replace h58 := cf hb63 h58
                          refine okC_skip ?_
                          refine okX_block_normal ?_
                          exact okX_meet (I := _) s51.1 (smh h58) (cc rfl (cc rfl (cc rfl (cc rfl (cc rfl (cc rfl (cc rfl (cc rfl (cc rfl (cc rfl (cc rfl (cc rfl cn)))))))))))) rfl
                      · intro s54 hx
                        change OkC _ _ _ [(4, (tL 1 lIs r2.2)), (5, (Ty.own w10)), (7, (pAt g14 0)), (8, (Ty.own v17)), (9, (tL 1 lI s54)), (10, (tI s39.2.1)), (21, (tL 5 Block.ty a0.Blocks)), (22, (tI ((a0.Blocks).length : Int))), (23, (tI s9.1)), (75, (tL 1 lI r44)), (76, (tI ((r44).length : Int))), (77, (tI s51.2))] (rowL v17 31 1 lIs s39.2.2 :: Item.blk g14 43 [(tL 6 VInstr.ty y12.Instrs), (tI y12.End), (tI y12.Reg), (tI y12.Target), (tI y12.Else)] :: rowL w10 22 1 ls_SSI s9.2 :: Item.blk g1 27 [(tI a0.Params), (tI a0.Regs), (tL 5 Block.ty a0.Blocks)] :: L)
                        obtain rfl : s54 = z56 := hx.symm
                        replace h := hz57
                        refine okC_region ?_
                        refine okL_step 87 (tI (w64 (s51.2 + 1))) rfl rfl (does_add rfl rfl) ?_
                        refine okL_step 77 (tI (w64 (s51.2 + 1))) rfl rfl (does_move rfl) ?_
                        refine okL_nil ?_
                        exact okX_again k (Nat.lt_succ_self k) (s54, (w64 (s51.2 + 1))) h (cc rfl (cc rfl (cc rfl (cc rfl (cc rfl (cc rfl (cc rfl (cc rfl (cc rfl (cc rfl (cc rfl (cc rfl cn)))))))))))) rfl
                    · replace h := cf hb53 h
                      refine okC_exit ?_
                      refine okX_then_exit ?_
                      refine okX_again_exit ?_
                      refine okX_block_hit ?_
                      exact okX_meet (I := _) s51.1 (smh h) (cc rfl (cc rfl (cc rfl (cc rfl (cc rfl (cc rfl (cc rfl (cc rfl (cc rfl cn))))))))) rfl
                · intro s46 hx
                  change OkX _ _ _ [(4, (tL 1 lIs r2.2)), (5, (Ty.own w10)), (7, (pAt g14 0)), (8, (Ty.own v17)), (9, (tL 1 lI s46)), (10, (tI s39.2.1)), (21, (tL 5 Block.ty a0.Blocks)), (22, (tI ((a0.Blocks).length : Int))), (23, (tI s9.1))] (rowL v17 31 1 lIs s39.2.2 :: Item.blk g14 43 [(tL 6 VInstr.ty y12.Instrs), (tI y12.End), (tI y12.Reg), (tI y12.Target), (tI y12.Else)] :: rowL w10 22 1 ls_SSI s9.2 :: Item.blk g1 27 [(tI a0.Params), (tI a0.Regs), (tL 5 Block.ty a0.Blocks)] :: L)
                  obtain rfl : s46 = z48 := hx.symm
                  replace h := hz49
                  refine okX_next ?_
                  refine okC_seq ?_
                  refine okC_seq ?_
                  refine okC_region ?_
                  refine okL_step 88 (pAt g14 0) rfl rfl (does_fieldAddrP 0 Tryd.underlying43 rfl Tryd.sizeOf41 rfl rfl) ?_
                  refine okL_step 89 (tL 6 VInstr.ty y12.Instrs) rfl rfl (does_loadB1 Tryd.isAgg41 rfl 1 rfl rfl) ?_
                  refine okL_step 90 (tI s39.2.1) rfl rfl (does_move rfl) ?_
                  obtain ⟨y66, hi67, h⟩ := bs h
                  refine okL_step 91 (Ty.ptr [(tI y66.Instr.Op), (tI y66.Instr.A), (tI y66.Instr.B), (tI y66.Instr.C), (tI y66.Instr.N), (tL 1 lI y66.Args)]) rfl rfl (does_index (sz := 6) (f := VInstr.ty) (l := y12.Instrs) (n := s39.2.1) y66 Tryd.underlying41 Tryd.sizeOf48 hi67 rfl rfl) ?_
                  refine okL_step 92 (Ty.agg [(tI y66.Instr.Op), (tI y66.Instr.A), (tI y66.Instr.B), (tI y66.Instr.C), (tI y66.Instr.N), (tL 1 lI y66.Args)]) rfl rfl (does_loadA [(tI y66.Instr.Op), (tI y66.Instr.A), (tI y66.Instr.B), (tI y66.Instr.C), (tI y66.Instr.N), (tL 1 lI y66.Args)] Tryd.isAgg48 Tryd.sizeOf48 rfl rfl rfl) ?_
                  obtain ⟨r68, hc69, h⟩ := bs h
                  refine okL_step 93 (tL 1 lI r68) rfl rfl (does_call0 (d_vcode_Reads K y66 r68 hc69) rfl Tryd.call95 rfl) ?_
                  refine okL_step 94 (tI ((r68).length : Int)) rfl rfl (does_len (sz := 1) (f := lI) (l := r68) rfl Tryd.underlying31 rfl) ?_
                  refine okL_step 95 (tI 0) rfl rfl (does_move rfl) ?_
                  refine okL_nil ?_
                  refine okX_next ?_
                  obtain ⟨z72, h74, hz73⟩ := bs h
                  refine okC_meetE (X := (List Int)) (fun x => z72 = x) (fun x : (List Int) => [(4, (tL 1 lIs r2.2)), (5, (Ty.own w10)), (7, (pAt g14 0)), (8, (Ty.own v17)), (9, (tL 1 lI x)), (10, (tI s39.2.1)), (21, (tL 5 Block.ty a0.Blocks)), (22, (tI ((a0.Blocks).length : Int))), (23, (tI s9.1))]) (fun x : (List Int) => rowL v17 31 1 lIs s39.2.2 :: Item.blk g14 43 [(tL 6 VInstr.ty y12.Instrs), (tI y12.End), (tI y12.Reg), (tI y12.Target), (tI y12.Else)] :: rowL w10 22 1 ls_SSI s9.2 :: Item.blk g1 27 [(tI a0.Params), (tI a0.Regs), (tL 5 Block.ty a0.Blocks)] :: L) ?_ ?_
                  · refine okC_block ?_
                    refine okC_loop (X := ((List Int) × Int)) (fun k x => regalloc_points_l4 K r68 k x = some z72) (fun x : ((List Int) × Int) => [(4, (tL 1 lIs r2.2)), (5, (Ty.own w10)), (7, (pAt g14 0)), (8, (Ty.own v17)), (9, (tL 1 lI x.1)), (10, (tI s39.2.1)), (21, (tL 5 Block.ty a0.Blocks)), (22, (tI ((a0.Blocks).length : Int))), (23, (tI s9.1)), (93, (tL 1 lI r68)), (94, (tI ((r68).length : Int))), (95, (tI x.2))]) (fun x : ((List Int) × Int) => rowL v17 31 1 lIs s39.2.2 :: Item.blk g14 43 [(tL 6 VInstr.ty y12.Instrs), (tI y12.End), (tI y12.Reg), (tI y12.Target), (tI y12.Else)] :: rowL w10 22 1 ls_SSI s9.2 :: Item.blk g1 27 [(tI a0.Params), (tI a0.Regs), (tL 5 Block.ty a0.Blocks)] :: L) K (s46, 0) h74 (cc rfl (cc rfl (cc rfl (cc rfl (cc rfl (cc rfl (cc rfl (cc rfl (cc rfl (cc rfl (cc rfl (cc rfl cn)))))))))))) rfl (fun k s75 hI => ?_)
                    change OkC _ _ _ [(4, (tL 1 lIs r2.2)), (5, (Ty.own w10)), (7, (pAt g14 0)), (8, (Ty.own v17)), (9, (tL 1 lI s75.1)), (10, (tI s39.2.1)), (21, (tL 5 Block.ty a0.Blocks)), (22, (tI ((a0.Blocks).length : Int))), (23, (tI s9.1)), (93, (tL 1 lI r68)), (94, (tI ((r68).length : Int))), (95, (tI s75.2))] (rowL v17 31 1 lIs s39.2.2 :: Item.blk g14 43 [(tL 6 VInstr.ty y12.Instrs), (tI y12.End), (tI y12.Reg), (tI y12.Target), (tI y12.Else)] :: rowL w10 22 1 ls_SSI s9.2 :: Item.blk g1 27 [(tI a0.Params), (tI a0.Regs), (tL 5 Block.ty a0.Blocks)] :: L)
                    cases k with
                    | zero => exact (nz hI).elim
                    | succ k =>
                      have h : regalloc_points_l4 K r68 (k + 1) s75 = some z72 := hI
                      rw [regalloc_points_l4.eq_2] at h
                      refine okC_seq ?_
                      refine okC_region ?_
                      refine okL_step 96 (tB (decide (s75.2 < ((r68).length : Int)))) rfl rfl (does_lss rfl rfl) ?_
                      refine okL_nil ?_
                      refine okX_next ?_
                      refine okC_seq ?_
                      refine okC_cond (b := (decide (s75.2 < ((r68).length : Int)))) rfl (fun hb77 => ?_) (fun hb77 => ?_)
                      · replace h := ct hb77 h
                        refine okC_skip ?_
                        refine okX_next ?_
                        refine okC_seq ?_
                        refine okC_block ?_
                        refine okC_seq ?_
                        refine okC_region ?_
                        obtain ⟨y78, hi79, h⟩ := bs h
                        refine okL_step 97 (Ty.ptr [(tI y78)]) rfl rfl (does_index (sz := 1) (f := lI) (l := r68) (n := s75.2) y78 Tryd.underlying31 Tryd.sizeOf3 hi79 rfl rfl) ?_
                        refine okL_step 98 (tI y78) rfl rfl (does_load1 Tryd.isAgg3 rfl) ?_
                        refine okL_step 14 (tI y78) rfl rfl (does_assign rfl) ?_
                        refine okL_nil ?_
                        refine okX_next ?_
                        refine okC_region ?_
                        refine okL_step 99 (tL 1 lI s75.1) rfl rfl (does_move rfl) ?_
                        refine okL_step 100 (tI y78) rfl rfl (does_move rfl) ?_
                        obtain ⟨r80, hc81, h⟩ := bs h
                        refine okL_step 101 (tL 1 lI r80) rfl rfl (does_call0 (c_regalloc_insert K s75.1 y78 r80 hc81) rfl Tryd.call114 rfl) ?_
                        refine okL_step 9 (tL 1 lI r80) rfl rfl (does_assign rfl) ?_
                        refine okL_nil ?_
                        refine okX_block_normal ?_
                        refine okX_next ?_
                        refine okC_region ?_
                        refine okL_step 102 (tI (w64 (s75.2 + 1))) rfl rfl (does_add rfl rfl) ?_
                        refine okL_step 95 (tI (w64 (s75.2 + 1))) rfl rfl (does_move rfl) ?_
                        refine okL_nil ?_
                        exact okX_again k (Nat.lt_succ_self k) (r80, (w64 (s75.2 + 1))) h (cc rfl (cc rfl (cc rfl (cc rfl (cc rfl (cc rfl (cc rfl (cc rfl (cc rfl (cc rfl (cc rfl (cc rfl cn)))))))))))) rfl
                      · replace h := cf hb77 h
                        refine okC_exit ?_
                        refine okX_then_exit ?_
                        refine okX_again_exit ?_
                        refine okX_block_hit ?_
                        exact okX_meet (I := _) s75.1 (smh h) (cc rfl (cc rfl (cc rfl (cc rfl (cc rfl (cc rfl (cc rfl (cc rfl (cc rfl cn))))))))) rfl
                  · intro s70 hx
                    change OkX _ _ _ [(4, (tL 1 lIs r2.2)), (5, (Ty.own w10)), (7, (pAt g14 0)), (8, (Ty.own v17)), (9, (tL 1 lI s70)), (10, (tI s39.2.1)), (21, (tL 5 Block.ty a0.Blocks)), (22, (tI ((a0.Blocks).length : Int))), (23, (tI s9.1))] (rowL v17 31 1 lIs s39.2.2 :: Item.blk g14 43 [(tL 6 VInstr.ty y12.Instrs), (tI y12.End), (tI y12.Reg), (tI y12.Target), (tI y12.Else)] :: rowL w10 22 1 ls_SSI s9.2 :: Item.blk g1 27 [(tI a0.Params), (tI a0.Regs), (tL 5 Block.ty a0.Blocks)] :: L)
                    obtain rfl : s70 = z72 := hx.symm
                    replace h := hz73
                    refine okX_next ?_
                    refine okC_region ?_
                    refine okL_step 103 (Ty.own v17) rfl rfl (does_move rfl) ?_
                    refine okL_step 104 (tI s39.2.1) rfl rfl (does_move rfl) ?_
                    refine okL_step 105 (tL 1 lI s70) rfl rfl (does_move rfl) ?_
                    obtain ⟨y82, hi83, h⟩ := bs h
                    refine okL_step 106 (Ty.rptr v17 (s39.2.1.toNat * 1)) rfl rfl (does_indexR (f := lIs) (l := s39.2.2) (m := s39.2.1) el22 0 y82 hi83 rfl rfl rfl) ?_
                    refine okL_stepU rfl (doesO_storeR (f := lIs) (l := s39.2.2) (sz := 1) (ps := [(tL 1 lI s70)]) (y0 := y82) (y1 := s70) (m := s39.2.1) 0 0 (s39.2.2.set s39.2.1.toNat s70) (rowL v17 31 1 lIs (s39.2.2.set s39.2.1.toNat s70) :: Item.blk g14 43 [(tL 6 VInstr.ty y12.Instrs), (tI y12.End), (tI y12.Reg), (tI y12.Target), (tI y12.Else)] :: rowL w10 22 1 ls_SSI s9.2 :: Item.blk g1 27 [(tI a0.Params), (tI a0.Regs), (tL 5 Block.ty a0.Blocks)] :: L) rfl rfl (part_one (one_slice _ _)) Tryd.sizeOf31 rfl hi83 rfl rfl rfl rfl rfl ?_)
                    refine okL_nil ?_
                    refine okX_block_normal ?_
                    refine okX_next ?_
                    refine okC_region ?_
                    refine okL_step 68 (tI s39.2.1) rfl rfl (does_move rfl) ?_
                    refine okL_step 69 (tI (w64 (s39.2.1 - 1))) rfl rfl (does_sub rfl rfl) ?_
                    refine okL_step 10 (tI (w64 (s39.2.1 - 1))) rfl rfl (does_assign rfl) ?_
                    refine okL_nil ?_
                    exact okX_again k (Nat.lt_succ_self k) (s70, (w64 (s39.2.1 - 1)), (s39.2.2.set s39.2.1.toNat s70)) h (cc rfl (cc rfl (cc rfl (cc rfl (cc rfl (cc rfl (cc rfl (cc rfl (cc rfl cn))))))))) rfl
              · replace h := cf hb41 h
                refine okC_exit ?_
                refine okX_then_exit ?_
                refine okX_again_exit ?_
                refine okX_block_hit ?_
                exact okX_meet (I := _) s39.2.2 (smh h) (cc rfl (cc rfl (cc rfl (cc rfl (cc rfl (cc rfl cn)))))) rfl
          · intro s34 hx
            change OkX _ _ _ [(4, (tL 1 lIs r2.2)), (5, (Ty.own w10)), (8, (Ty.own v17)), (21, (tL 5 Block.ty a0.Blocks)), (22, (tI ((a0.Blocks).length : Int))), (23, (tI s9.1))] (rowL v17 31 1 lIs s34 :: Item.blk g14 43 [(tL 6 VInstr.ty y12.Instrs), (tI y12.End), (tI y12.Reg), (tI y12.Target), (tI y12.Else)] :: rowL w10 22 1 ls_SSI s9.2 :: Item.blk g1 27 [(tI a0.Params), (tI a0.Regs), (tL 5 Block.ty a0.Blocks)] :: L)
            obtain rfl : s34 = z36 := hx.symm
            replace h := hz37
            refine okX_next ?_
            refine okC_region ?_
            refine okL_step 107 (Ty.own w10) rfl rfl (does_move rfl) ?_
            refine okL_step 108 (Ty.own v17) rfl rfl (does_move rfl) ?_
            refine okL_publish 0 [8, 108] (Item.blk g14 43 [(tL 6 VInstr.ty y12.Instrs), (tI y12.End), (tI y12.Reg), (tI y12.Target), (tI y12.Else)] :: rowL w10 22 1 ls_SSI s9.2 :: Item.blk g1 27 [(tI a0.Params), (tI a0.Regs), (tL 5 Block.ty a0.Blocks)] :: L) rfl (ac rfl (ac rfl an)) rfl ?_
            refine okL_step 109 (tL 1 ls_SSI ([s34] : List (List (List Int)))) rfl rfl (does_buildSlice (f := ls_SSI) ([s34] : List (List (List Int))) [(tL 1 lIs s34)] el132 rfl rfl rfl (fc [(tL 1 lIs s34)] 0 rfl (part_one (one_slice _ _)) rfl rfl (fn_ rfl)) rfl (fun _ => rfl)) ?_
            obtain ⟨l84, ha85, h⟩ := bs h
            refine okL_stepO 110 rfl rfl (doesO_append (f := ls_SSI) (l := s9.2) (m := ([s34] : List (List (List Int)))) el132 1 l84 (fun v86 => Item.blk g14 43 [(tL 6 VInstr.ty y12.Instrs), (tI y12.End), (tI y12.Reg), (tI y12.Target), (tI y12.Else)] :: rowL v86 22 1 ls_SSI l84 :: Item.blk g1 27 [(tI a0.Params), (tI a0.Regs), (tL 5 Block.ty a0.Blocks)] :: L) ha85 rfl rfl rfl (fun _ => rfl) (fun v86 => ?_))
            refine okL_step 5 (Ty.own v86) rfl rfl (does_assign rfl) ?_
            refine okL_nil ?_
            refine okX_block_normal ?_
            refine okX_next ?_
            refine okC_region ?_
            refine okL_step 111 (tI (w64 (s9.1 + 1))) rfl rfl (does_add rfl rfl) ?_
            refine okL_step 23 (tI (w64 (s9.1 + 1))) rfl rfl (does_move rfl) ?_
            refine okL_nil ?_
            refine okX_items [Item.blk g14 43 [(tL 6 VInstr.ty y12.Instrs), (tI y12.End), (tI y12.Reg), (tI y12.Target), (tI y12.Else)]] (rowL v86 22 1 ls_SSI l84 :: Item.blk g1 27 [(tI a0.Params), (tI a0.Regs), (tL 5 Block.ty a0.Blocks)] :: L) (pm 0 rfl (pm 0 rfl (pm 0 rfl (pr _)))) ?_
            exact okX_again k (Nat.lt_succ_self k) (((w64 (s9.1 + 1)), l84), v86) h (cc rfl (cc rfl (cc rfl (cc rfl (cc rfl cn))))) rfl
      · replace h := cf hb11 h
        refine okC_exit ?_
        refine okX_then_exit ?_
        refine okX_again_exit ?_
        refine okX_block_hit ?_
        exact okX_meet (I := _) (s9.2, w10) (smh h) (cc rfl cn) rfl
  · intro x hx
    obtain ⟨s4, w5⟩ := x
    change OkX _ _ _ [(5, (Ty.own w5))] (rowL w5 22 1 ls_SSI s4 :: Item.blk g1 27 [(tI a0.Params), (tI a0.Regs), (tL 5 Block.ty a0.Blocks)] :: L)
    obtain rfl : s4 = z6 := hx.symm
    replace h := hz7
    refine okX_next ?_
    refine okC_seq ?_
    refine okC_region ?_
    refine okL_step 112 (Ty.own w5) rfl rfl (does_move rfl) ?_
    refine okL_step 2 (Ty.own w5) rfl rfl (does_assign rfl) ?_
    refine okL_nil ?_
    refine okX_next ?_
    refine okC_ret ?_
    obtain rfl := (smh h).symm
    refine okX_publish 0 [5, 112, 2] (Item.blk g1 27 [(tI a0.Params), (tI a0.Regs), (tL 5 Block.ty a0.Blocks)] :: L) rfl (ac rfl (ac rfl (ac rfl an))) rfl ?_
    refine okX_items [Item.blk g1 27 [(tI a0.Params), (tI a0.Regs), (tL 5 Block.ty a0.Blocks)]] (L) (pm 0 rfl (pr _)) ?_
    exact okX_ret1 () Tryd.results91 rfl rfl

def regalloc_Interference_l1 (K : Nat) (a0 : VFunc) (l5 : (List (List Int))) : Nat → (Int × (List (List Int))) → Option (List (List Int))
  | 0, _ => none
  | k + 1, s16 => (cnd (decide (s16.1 < ((l5).length : Int))) (Option.bind (mk 8 (w64 (Int.tdiv (w64 (a0.Regs + 63)) 64)) 0) (fun l19 => (Option.bind (idx s16.2 s16.1) (fun y22 => (regalloc_Interference_l1 K a0 l5 k ((w64 (s16.1 + 1)), (s16.2.set s16.1.toNat l19))))))) (some s16.2))

def regalloc_Interference_l5 (K : Nat) (y47 : VInstr) (y60 : Int) (y64 : (List Int)) : Nat → (Int × (List (List Int))) → Option (List (List Int))
  | 0, _ => none
  | k + 1, s71 => (cnd (decide (s71.1 < ((y64).length : Int))) (Option.bind (Option.bind (idx y64 s71.1) (fun y79 => (cnd ((y79 != y60) && (!((y47.Instr.Op == 10) && (y79 == y47.Instr.B)))) (Option.bind (regalloc_Interference_1 y60 y79 s71.2) (fun r85 => (some r85))) (some s71.2)))) (fun s74 => (regalloc_Interference_l5 K y47 y60 y64 k ((w64 (s71.1 + 1)), s74)))) (some s71.2))

def regalloc_Interference_l4 (K : Nat) (r26 : (List (List (List Int)))) (s33 : (Int × (List (List Int)))) (s44 : (Int × (List (List Int)))) (y47 : VInstr) (r50 : (List Int)) : Nat → (Int × (List (List Int))) → Option (List (List Int))
  | 0, _ => none
  | k + 1, s57 => (cnd (decide (s57.1 < ((r50).length : Int))) (Option.bind (idx r50 s57.1) (fun y60 => (Option.bind (idx r26 s33.1) (fun y62 => (Option.bind (idx y62 (w64 (s44.1 + 1))) (fun y64 => (Option.bind (regalloc_Interference_l5 K y47 y60 y64 K (0, s57.2)) (fun s66 => (regalloc_Interference_l4 K r26 s33 s44 y47 r50 k ((w64 (s57.1 + 1)), s66)))))))))) (some s57.2))

def regalloc_Interference_l3 (K : Nat) (r26 : (List (List (List Int)))) (s33 : (Int × (List (List Int)))) (y36 : Block) : Nat → (Int × (List (List Int))) → Option (List (List Int))
  | 0, _ => none
  | k + 1, s44 => (cnd (decide (s44.1 < ((y36.Instrs).length : Int))) (Option.bind (idx y36.Instrs s44.1) (fun y47 => (Option.bind (vcode_Writes y47) (fun r50 => (Option.bind (regalloc_Interference_l4 K r26 s33 s44 y47 r50 K (0, s44.2)) (fun s52 => (regalloc_Interference_l3 K r26 s33 y36 k ((w64 (s44.1 + 1)), s52)))))))) (some s44.2))

def regalloc_Interference_l2 (K : Nat) (a0 : VFunc) (r26 : (List (List (List Int)))) : Nat → (Int × (List (List Int))) → Option (List (List Int))
  | 0, _ => none
  | k + 1, s33 => (cnd (decide (s33.1 < ((a0.Blocks).length : Int))) (Option.bind (idx a0.Blocks s33.1) (fun y36 => (Option.bind (regalloc_Interference_l3 K r26 s33 y36 K (0, s33.2)) (fun s39 => (regalloc_Interference_l2 K a0 r26 k ((w64 (s33.1 + 1)), s39)))))) (some s33.2))

def regalloc_Interference_l7 (K : Nat) (a0 : VFunc) (s98 : (Int × (List (List Int)) × (List (List Int)))) : Nat → (Int × (List (List Int)) × (List (List Int))) → Option ((List (List Int)) × (List (List Int)))
  | 0, _ => none
  | k + 1, s106 => (cnd (decide (s106.1 < a0.Regs)) (Option.bind (Option.bind (idx s106.2.2 s98.1) (fun y114 => (Option.bind (idx y114 (w64 (Int.tdiv s106.1 64))) (fun y118 => (cnd ((bAnd .u64 (bShr .u64 y118 (u64 (Int.tmod s106.1 64))) 1) == 1) (Option.bind (idx s106.2.1 s98.1) (fun y121 => (Option.bind (app 8 y121 ([s106.1] : List Int)) (fun l125 => (some ((s106.2.1.set s98.1.toNat l125), (s106.2.2.set s98.1.toNat y114))))))) (some (s106.2.1, (s106.2.2.set s98.1.toNat y114)))))))) (fun s109 => (regalloc_Interference_l7 K a0 s98 k ((w64 (s106.1 + 1)), s109.1, s109.2)))) (some (s106.2.1, s106.2.2)))

def regalloc_Interference_l6 (K : Nat) (a0 : VFunc) (s28 : (List (List Int))) : Nat → (Int × (List (List Int)) × (List (List Int))) → Option ((List (List Int)) × (List (List Int)))
  | 0, _ => none
  | k + 1, s98 => (cnd (decide (s98.1 < ((s28).length : Int))) (Option.bind (regalloc_Interference_l7 K a0 s98 K (0, s98.2.1, s98.2.2)) (fun s101 => (regalloc_Interference_l6 K a0 s28 k ((w64 (s98.1 + 1)), s101.1, s101.2)))) (some (s98.2.1, s98.2.2)))

def regalloc_Interference (K : Nat) (a0 : VFunc) : Option (List (List Int)) :=
  (Option.bind (vcode_Valid K a0) (fun r2 => (cnd (!r2) (some ([] : List (List Int))) (Option.bind (mk 24 a0.Regs ([] : List Int)) (fun l5 => (Option.bind (regalloc_Interference_l1 K a0 l5 K (0, l5)) (fun s11 => (Option.bind (regalloc_points K a0) (fun r26 => (Option.bind (regalloc_Interference_l2 K a0 r26 K (0, s11)) (fun s28 => (Option.bind (mk 24 a0.Regs ([] : List Int)) (fun l88 => (Option.bind (regalloc_Interference_l6 K a0 s28 K (0, l88, s28)) (fun s93 => (some s93.1))))))))))))))))

theorem c_regalloc_Interference (K : Nat) (a0 : VFunc) (r : (List (List Int))) (h : regalloc_Interference K a0 = some r) : CallP Tryd.prog glob 53 [(Ty.agg [(tI a0.Params), (tI a0.Regs), (tL 5 Block.ty a0.Blocks)])] (tL 1 lIs r) := by
  refine call_of_code Tryd.func53 rfl Tryd.ntmps53 rfl (fun L w => ?_)
  change OkC _ _ _ [(0, (Ty.agg [(tI a0.Params), (tI a0.Regs), (tL 5 Block.ty a0.Blocks)]))] (L)
  unfold regalloc_Interference at h
  refine okC_seq ?_
  refine okC_region ?_
  refine okL_stepO 1 rfl rfl (doesO_box [(tI a0.Params), (tI a0.Regs), (tL 5 Block.ty a0.Blocks)] rfl (part_agg _) (fun g1 => ?_))
  refine okL_step 2 (Ty.val (.slice none 0 0)) rfl rfl (does_assign rfl) ?_
  refine okL_nil ?_
  refine okX_next ?_
  refine okC_seq ?_
  refine okC_seq ?_
  refine okC_region ?_
  refine okL_step 18 (Ty.agg [(tI a0.Params), (tI a0.Regs), (tL 5 Block.ty a0.Blocks)]) rfl rfl (does_loadBA [(tI a0.Params), (tI a0.Regs), (tL 5 Block.ty a0.Blocks)] Tryd.isAgg27 Tryd.sizeOf27 rfl 0 rfl rfl rfl) ?_
  obtain ⟨r2, hc3, h⟩ := bs h
  refine okL_step 19 (tB r2) rfl rfl (does_call0 (c_vcode_Valid K a0 r2 hc3) rfl Tryd.call63 rfl) ?_
  refine okL_step 20 (tB (!r2)) rfl rfl (does_not rfl) ?_
  refine okL_nil ?_
  refine okX_next ?_
  refine okC_cond (b := (!r2)) rfl (fun hb4 => ?_) (fun hb4 => ?_)
  · replace h := ct hb4 h
    refine okC_seq ?_
    refine okC_region ?_
    refine okL_step 2 (Ty.val (.slice none 0 0)) rfl rfl (does_assign rfl) ?_
    refine okL_nil ?_
    refine okX_next ?_
    refine okC_ret ?_
    refine okX_then_ret ?_
    obtain rfl := (smh h).symm
    refine okX_sub 2 (tL 1 lIs ([] : List (List Int))) rfl (sub_nil _) ?_
    refine okX_items [Item.blk g1 27 [(tI a0.Params), (tI a0.Regs), (tL 5 Block.ty a0.Blocks)]] (L) (pm 0 rfl (pr _)) ?_
    exact okX_ret1 () Tryd.results53 rfl rfl
  · replace h := cf hb4 h
    refine okC_skip ?_
    refine okX_next ?_
    refine okC_seq ?_
    refine okC_region ?_
    refine okL_step 21 (pAt g1 1) rfl rfl (does_fieldAddrP 1 Tryd.underlying27 rfl Tryd.sizeOf3 rfl rfl) ?_
    refine okL_step 22 (tI a0.Regs) rfl rfl (does_loadB1 Tryd.isAgg3 rfl 0 rfl rfl) ?_
    obtain ⟨l5, hm6, h⟩ := bs h
    refine okL_stepO 23 rfl rfl (doesO_makeM lU 137 1 el136 l5 hm6 rfl rfl (fun v7 us8 => ?_))
    refine okL_stepO 3 rfl rfl (doesO_alloc [(Ty.val (.slice none 0 0))] Tryd.zeroValue136 (part_one (one_val rfl)) (fun g9 => ?_))
    refine okL_stepU rfl (doesO_storeB (ps := [(Ty.own v7)]) 0 [(Ty.own v7)] (Item.blk g9 136 [(Ty.own v7)] :: rowL v7 92 1 lO us8 :: rowsL us8 137 1 lU l5 :: Item.blk g1 27 [(tI a0.Params), (tI a0.Regs), (tL 5 Block.ty a0.Blocks)] :: L) rfl rfl (part_one (one_own _)) Tryd.sizeOf136 rfl rfl rfl rfl ?_)
    refine okL_nil ?_
    refine okX_next ?_
    refine okC_seq ?_
    refine okC_seq ?_
    refine okC_region ?_
    refine okL_step 24 (Ty.own v7) rfl rfl (does_loadB1 Tryd.isAgg136 rfl 0 rfl rfl) ?_
    refine okL_rowsLen 2 rfl (fun hl10 => ?_)
    refine okL_step 25 (tI ((l5).length : Int)) rfl rfl (does_weak (does_lenR (f := lO) (l := us8) rfl Tryd.underlying136 1 rfl rfl) (sub_eq (congrArg (fun n : Nat => tI (n : Int)) hl10))) ?_
    refine okL_step 26 (tI 0) rfl rfl (does_move rfl) ?_
    refine okL_nil ?_
    refine okX_next ?_
    obtain ⟨z13, h15, hz14⟩ := bs h
    refine okC_meetE (X := ((List (List Int)) × (List Value))) (fun x => z13 = x.1) (fun x : ((List (List Int)) × (List Value)) => [(1, (pAt g1 0)), (3, (pAt g9 0))]) (fun x : ((List (List Int)) × (List Value)) => Item.blk g9 136 [(Ty.own v7)] :: rowL v7 92 1 lO x.2 :: rowsL x.2 137 1 lU x.1 :: Item.blk g1 27 [(tI a0.Params), (tI a0.Regs), (tL 5 Block.ty a0.Blocks)] :: L) ?_ ?_
    · refine okC_block ?_
      refine okC_loop (X := ((Int × (List (List Int))) × (List Value))) (fun k x => regalloc_Interference_l1 K a0 l5 k x.1 = some z13) (fun x : ((Int × (List (List Int))) × (List Value)) => [(1, (pAt g1 0)), (3, (pAt g9 0)), (25, (tI ((l5).length : Int))), (26, (tI x.1.1))]) (fun x : ((Int × (List (List Int))) × (List Value)) => Item.blk g9 136 [(Ty.own v7)] :: rowL v7 92 1 lO x.2 :: rowsL x.2 137 1 lU x.1.2 :: Item.blk g1 27 [(tI a0.Params), (tI a0.Regs), (tL 5 Block.ty a0.Blocks)] :: L) K ((0, l5), us8) h15 (cc rfl (cc rfl (cc rfl (cc rfl cn)))) rfl (fun k x hI => ?_)
      obtain ⟨s16, w17⟩ := x
      change OkC _ _ _ [(1, (pAt g1 0)), (3, (pAt g9 0)), (25, (tI ((l5).length : Int))), (26, (tI s16.1))] (Item.blk g9 136 [(Ty.own v7)] :: rowL v7 92 1 lO w17 :: rowsL w17 137 1 lU s16.2 :: Item.blk g1 27 [(tI a0.Params), (tI a0.Regs), (tL 5 Block.ty a0.Blocks)] :: L)
      cases k with
      | zero => exact (nz hI).elim
      | succ k =>
        have h : regalloc_Interference_l1 K a0 l5 (k + 1) s16 = some z13 := hI
        rw [regalloc_Interference_l1.eq_2] at h
        refine okC_seq ?_
        refine okC_region ?_
        refine okL_step 27 (tB (decide (s16.1 < ((l5).length : Int)))) rfl rfl (does_lss rfl rfl) ?_
        refine okL_nil ?_
        refine okX_next ?_
        refine okC_seq ?_
        refine okC_cond (b := (decide (s16.1 < ((l5).length : Int)))) rfl (fun hb18 => ?_) (fun hb18 => ?_)
        · replace h := ct hb18 h
          refine okC_skip ?_
          refine okX_next ?_
          refine okC_seq ?_
          refine okC_block ?_
          refine okC_seq ?_
          refine okC_region ?_
          refine okL_step 28 (tI s16.1) rfl rfl (does_move rfl) ?_
          refine okL_step 4 (tI s16.1) rfl rfl (does_assign rfl) ?_
          refine okL_nil ?_
          refine okX_next ?_
          refine okC_cov [(1, (pAt g1 0)), (3, (pAt g9 0)), (4, (tI s16.1)), (25, (tI ((l5).length : Int))), (26, (tI s16.1))] (cc rfl (cc rfl (cc rfl (cc rfl (cc rfl cn))))) ?_
          obtain ⟨l19, hm20, h⟩ := bs h
          refine okC_draw 7 [some (29, (Ty.own v7)), some (30, (tI s16.1)), some (31, (pAt g1 1)), some (32, (tI a0.Regs)), some (33, (tI (w64 (a0.Regs + 63)))), some (34, (tI (w64 (Int.tdiv (w64 (a0.Regs + 63)) 64)))), none] ⟨Item.blk g9 136 [(Ty.own v7)] :: rowL v7 92 1 lO w17 :: rowsL w17 137 1 lU s16.2 :: Item.blk g1 27 [(tI a0.Params), (tI a0.Regs), (tL 5 Block.ty a0.Blocks)] :: ([] : List Item), Item.blk g9 136 [(Ty.own v7)] :: rowL v7 92 1 lO w17 :: rowsL w17 137 1 lU s16.2 :: Item.blk g1 27 [(tI a0.Params), (tI a0.Regs), (tL 5 Block.ty a0.Blocks)] :: ([] : List Item), []⟩ [6] mixed rfl rfl (by kernel_rfl) rfl (by kernel_rfl) rfl rfl rfl (fun _ h => List.Sublist.subset (.cons_cons _ (.cons_cons _ (.cons_cons _ (.cons_cons _ (List.nil_sublist _))))) h) (fun _ h => List.Sublist.subset (.cons_cons _ (.cons_cons _ (.cons_cons _ (.cons_cons _ (List.nil_sublist _))))) h) rfl (by kernel_rfl) (.inr ⟨by kernel_rfl, by kernel_rfl⟩) (by kernel_rfl) (by kernel_rfl) (dc (draw_plain rfl (does_loadB1 Tryd.isAgg136 rfl 0 rfl rfl)) (dc (draw_plain rfl (does_move rfl)) (dc (draw_plain rfl (does_fieldAddrP 1 Tryd.underlying27 rfl Tryd.sizeOf3 rfl rfl)) (dc (draw_plain rfl (does_loadB1 Tryd.isAgg3 rfl 3 rfl rfl)) (dc (draw_plain rfl (does_add rfl rfl)) (dc (draw_plain rfl (does_quo (by decide) rfl rfl)) (ds (dn)))))))) ?_
          refine ch_step [6] rfl (ap_cons (ch_at _ rfl rfl (doesO_make (f := lU) el92 0 l19 hm20 rfl rfl (part_one (one_val rfl)) (fun v21 => ?_))) (ap_nil))
          refine ⟨⟨(fun _ h => List.Sublist.subset (.cons _ (.cons_cons _ (.cons_cons _ (.cons_cons _ (.cons_cons _ (List.nil_sublist _)))))) h), .inr (fun _ h => List.Sublist.subset (.cons _ (.cons_cons _ (.cons_cons _ (.cons_cons _ (.cons_cons _ (List.nil_sublist _)))))) h)⟩, ?_⟩
          refine ch_end ?_
          change OkL _ _ _ _ [(29, (Ty.own v7)), (30, (tI s16.1)), (31, (pAt g1 1)), (32, (tI a0.Regs)), (33, (tI (w64 (a0.Regs + 63)))), (34, (tI (w64 (Int.tdiv (w64 (a0.Regs + 63)) 64)))), (35, (Ty.own v21)), (1, (pAt g1 0)), (3, (pAt g9 0)), (4, (tI s16.1)), (25, (tI ((l5).length : Int))), (26, (tI s16.1))] (rowL v21 137 1 lU l19 :: Item.blk g9 136 [(Ty.own v7)] :: rowL v7 92 1 lO w17 :: rowsL w17 137 1 lU s16.2 :: Item.blk g1 27 [(tI a0.Params), (tI a0.Regs), (tL 5 Block.ty a0.Blocks)] :: L)
          obtain ⟨y22, hi23, h⟩ := bs h
          refine okL_open (m := s16.1) hi23 (pm 3 rfl (pr _)) (fun u24 hu25 => ?_)
          refine okL_step 36 (Ty.rptr v7 (s16.1.toNat * 1)) rfl rfl (does_indexR (f := lO) (l := w17) (m := s16.1) el136 4 u24 hu25 rfl rfl rfl) ?_
          refine okL_stepU rfl (doesO_storeR (f := lO) (l := w17) (sz := 1) (ps := [(Ty.own v21)]) (y0 := u24) (y1 := v21) (m := s16.1) 4 0 (w17.set s16.1.toNat v21) (rowL u24 137 1 lU y22 :: rowsL (w17.eraseIdx s16.1.toNat) 137 1 lU (s16.2.eraseIdx s16.1.toNat) :: rowL v21 137 1 lU l19 :: Item.blk g9 136 [(Ty.own v7)] :: rowL v7 92 1 lO (w17.set s16.1.toNat v21) :: Item.blk g1 27 [(tI a0.Params), (tI a0.Regs), (tL 5 Block.ty a0.Blocks)] :: L) rfl rfl (part_one (one_own _)) Tryd.sizeOf92 rfl hu25 rfl rfl rfl rfl rfl ?_)
          refine okL_close2 (m := s16.1) hi23 hu25 (pm 2 rfl (pm 1 rfl (pr _))) ?_
          refine okL_nil ?_
          refine okX_block_normal ?_
          refine okX_next ?_
          refine okC_region ?_
          refine okL_step 37 (tI (w64 (s16.1 + 1))) rfl rfl (does_add rfl rfl) ?_
          refine okL_step 26 (tI (w64 (s16.1 + 1))) rfl rfl (does_move rfl) ?_
          refine okL_nil ?_
          refine okX_items [rowL u24 137 1 lU y22] (Item.blk g9 136 [(Ty.own v7)] :: rowL v7 92 1 lO (w17.set s16.1.toNat v21) :: rowsL (w17.set s16.1.toNat v21) 137 1 lU (s16.2.set s16.1.toNat l19) :: Item.blk g1 27 [(tI a0.Params), (tI a0.Regs), (tL 5 Block.ty a0.Blocks)] :: L) (pm 1 rfl (pm 1 rfl (pm 1 rfl (pm 0 rfl (pm 0 rfl (pr _)))))) ?_
          exact okX_again k (Nat.lt_succ_self k) (((w64 (s16.1 + 1)), (s16.2.set s16.1.toNat l19)), (w17.set s16.1.toNat v21)) h (cc rfl (cc rfl (cc rfl (cc rfl cn)))) rfl
        · replace h := cf hb18 h
          refine okC_exit ?_
          refine okX_then_exit ?_
          refine okX_again_exit ?_
          refine okX_block_hit ?_
          exact okX_meet (I := _) (s16.2, w17) (smh h) (cc rfl (cc rfl cn)) rfl
    · intro x hx
      obtain ⟨s11, w12⟩ := x
      change OkX _ _ _ [(1, (pAt g1 0)), (3, (pAt g9 0))] (Item.blk g9 136 [(Ty.own v7)] :: rowL v7 92 1 lO w12 :: rowsL w12 137 1 lU s11 :: Item.blk g1 27 [(tI a0.Params), (tI a0.Regs), (tL 5 Block.ty a0.Blocks)] :: L)
      obtain rfl : s11 = z13 := hx.symm
      replace h := hz14
      refine okX_next ?_
      refine okC_seq ?_
      refine okC_region ?_
      refine okL_step 38 (Ty.val (.func (.func 97) #[] #[(.pointer (some ⟨g9, 0, none⟩))])) rfl rfl (does_makeFunc (vs := [(.pointer (some ⟨g9, 0, none⟩))]) rfl) ?_
      refine okL_step 5 (Ty.val (.func (.func 97) #[] #[(.pointer (some ⟨g9, 0, none⟩))])) rfl rfl (does_assign rfl) ?_
      refine okL_nil ?_
      refine okX_next ?_
      refine okC_seq ?_
      refine okC_region ?_
      refine okL_step 39 (Ty.agg [(tI a0.Params), (tI a0.Regs), (tL 5 Block.ty a0.Blocks)]) rfl rfl (does_loadBA [(tI a0.Params), (tI a0.Regs), (tL 5 Block.ty a0.Blocks)] Tryd.isAgg27 Tryd.sizeOf27 rfl 3 rfl rfl rfl) ?_
      obtain ⟨r26, hc27, h⟩ := bs h
      refine okL_step 40 (tL 1 ls_SSI r26) rfl rfl (does_call0 (c_regalloc_points K a0 r26 hc27) rfl Tryd.call91 rfl) ?_
      refine okL_step 6 (tL 1 ls_SSI r26) rfl rfl (does_assign rfl) ?_
      refine okL_nil ?_
      refine okX_next ?_
      refine okC_seq ?_
      refine okC_seq ?_
      refine okC_region ?_
      refine okL_step 41 (pAt g1 2) rfl rfl (does_fieldAddrP 2 Tryd.underlying27 rfl Tryd.sizeOf25 rfl rfl) ?_
      refine okL_step 42 (tL 5 Block.ty a0.Blocks) rfl rfl (does_loadB1 Tryd.isAgg25 rfl 3 rfl rfl) ?_
      refine okL_step 43 (tI ((a0.Blocks).length : Int)) rfl rfl (does_len (sz := 5) (f := Block.ty) (l := a0.Blocks) rfl Tryd.underlying25 rfl) ?_
      refine okL_step 44 (tI 0) rfl rfl (does_move rfl) ?_
      refine okL_nil ?_
      refine okX_next ?_
      obtain ⟨z30, h32, hz31⟩ := bs h
      refine okC_meetE (X := ((List (List Int)) × (List Value))) (fun x => z30 = x.1) (fun x : ((List (List Int)) × (List Value)) => [(1, (pAt g1 0)), (3, (pAt g9 0))]) (fun x : ((List (List Int)) × (List Value)) => Item.blk g9 136 [(Ty.own v7)] :: rowL v7 92 1 lO x.2 :: rowsL x.2 137 1 lU x.1 :: Item.blk g1 27 [(tI a0.Params), (tI a0.Regs), (tL 5 Block.ty a0.Blocks)] :: L) ?_ ?_
      · refine okC_block ?_
        refine okC_loop (X := ((Int × (List (List Int))) × (List Value))) (fun k x => regalloc_Interference_l2 K a0 r26 k x.1 = some z30) (fun x : ((Int × (List (List Int))) × (List Value)) => [(1, (pAt g1 0)), (3, (pAt g9 0)), (5, (Ty.val (.func (.func 97) #[] #[(.pointer (some ⟨g9, 0, none⟩))]))), (6, (tL 1 ls_SSI r26)), (42, (tL 5 Block.ty a0.Blocks)), (43, (tI ((a0.Blocks).length : Int))), (44, (tI x.1.1))]) (fun x : ((Int × (List (List Int))) × (List Value)) => Item.blk g9 136 [(Ty.own v7)] :: rowL v7 92 1 lO x.2 :: rowsL x.2 137 1 lU x.1.2 :: Item.blk g1 27 [(tI a0.Params), (tI a0.Regs), (tL 5 Block.ty a0.Blocks)] :: L) K ((0, s11), w12) h32 (cc rfl (cc rfl (cc rfl (cc rfl (cc rfl (cc rfl (cc rfl cn))))))) rfl (fun k x hI => ?_)
        obtain ⟨s33, w34⟩ := x
        change OkC _ _ _ [(1, (pAt g1 0)), (3, (pAt g9 0)), (5, (Ty.val (.func (.func 97) #[] #[(.pointer (some ⟨g9, 0, none⟩))]))), (6, (tL 1 ls_SSI r26)), (42, (tL 5 Block.ty a0.Blocks)), (43, (tI ((a0.Blocks).length : Int))), (44, (tI s33.1))] (Item.blk g9 136 [(Ty.own v7)] :: rowL v7 92 1 lO w34 :: rowsL w34 137 1 lU s33.2 :: Item.blk g1 27 [(tI a0.Params), (tI a0.Regs), (tL 5 Block.ty a0.Blocks)] :: L)
        cases k with
        | zero => exact (nz hI).elim
        | succ k =>
          have h : regalloc_Interference_l2 K a0 r26 (k + 1) s33 = some z30 := hI
          rw [regalloc_Interference_l2.eq_2] at h
          refine okC_seq ?_
          refine okC_region ?_
          refine okL_step 45 (tB (decide (s33.1 < ((a0.Blocks).length : Int)))) rfl rfl (does_lss rfl rfl) ?_
          refine okL_nil ?_
          refine okX_next ?_
          refine okC_seq ?_
          refine okC_cond (b := (decide (s33.1 < ((a0.Blocks).length : Int)))) rfl (fun hb35 => ?_) (fun hb35 => ?_)
          · replace h := ct hb35 h
            refine okC_skip ?_
            refine okX_next ?_
            refine okC_seq ?_
            refine okC_block ?_
            refine okC_seq ?_
            refine okC_region ?_
            refine okL_step 46 (tI s33.1) rfl rfl (does_move rfl) ?_
            obtain ⟨y36, hi37, h⟩ := bs h
            refine okL_step 47 (Ty.ptr [(tL 6 VInstr.ty y36.Instrs), (tI y36.End), (tI y36.Reg), (tI y36.Target), (tI y36.Else)]) rfl rfl (does_index (sz := 5) (f := Block.ty) (l := a0.Blocks) (n := s33.1) y36 Tryd.underlying25 Tryd.sizeOf43 hi37 rfl rfl) ?_
            refine okL_step 48 (Ty.agg [(tL 6 VInstr.ty y36.Instrs), (tI y36.End), (tI y36.Reg), (tI y36.Target), (tI y36.Else)]) rfl rfl (does_loadA [(tL 6 VInstr.ty y36.Instrs), (tI y36.End), (tI y36.Reg), (tI y36.Target), (tI y36.Else)] Tryd.isAgg43 Tryd.sizeOf43 rfl rfl rfl) ?_
            refine okL_stepO 8 rfl rfl (doesO_alloc [(Ty.val (.slice none 0 0)), (tI 0), (tI 0), (tI 0), (tI 0)] Tryd.zeroValue43 (part_of (sub_agg [(.slice none 0 0), (.int .i64 0), (.int .i64 0), (.int .i64 0), (.int .i64 0)] rfl) (part_agg _)) (fun g38 => ?_))
            refine okL_step 7 (tI s33.1) rfl rfl (does_assign rfl) ?_
            refine okL_stepU rfl (doesO_storeB (ps := [(tL 6 VInstr.ty y36.Instrs), (tI y36.End), (tI y36.Reg), (tI y36.Target), (tI y36.Else)]) 0 [(tL 6 VInstr.ty y36.Instrs), (tI y36.End), (tI y36.Reg), (tI y36.Target), (tI y36.Else)] (Item.blk g38 43 [(tL 6 VInstr.ty y36.Instrs), (tI y36.End), (tI y36.Reg), (tI y36.Target), (tI y36.Else)] :: Item.blk g9 136 [(Ty.own v7)] :: rowL v7 92 1 lO w34 :: rowsL w34 137 1 lU s33.2 :: Item.blk g1 27 [(tI a0.Params), (tI a0.Regs), (tL 5 Block.ty a0.Blocks)] :: L) rfl rfl (part_agg _) Tryd.sizeOf43 rfl rfl rfl rfl ?_)
            refine okL_nil ?_
            refine okX_next ?_
            refine okC_seq ?_
            refine okC_region ?_
            refine okL_step 49 (pAt g38 0) rfl rfl (does_fieldAddrP 0 Tryd.underlying43 rfl Tryd.sizeOf41 rfl rfl) ?_
            refine okL_step 50 (tL 6 VInstr.ty y36.Instrs) rfl rfl (does_loadB1 Tryd.isAgg41 rfl 0 rfl rfl) ?_
            refine okL_step 51 (tI ((y36.Instrs).length : Int)) rfl rfl (does_len (sz := 6) (f := VInstr.ty) (l := y36.Instrs) rfl Tryd.underlying41 rfl) ?_
            refine okL_step 52 (tI 0) rfl rfl (does_move rfl) ?_
            refine okL_nil ?_
            refine okX_next ?_
            obtain ⟨z41, h43, hz42⟩ := bs h
            refine okC_meetE (X := (List (List Int))) (fun x => z41 = x) (fun x : (List (List Int)) => [(1, (pAt g1 0)), (3, (pAt g9 0)), (5, (Ty.val (.func (.func 97) #[] #[(.pointer (some ⟨g9, 0, none⟩))]))), (6, (tL 1 ls_SSI r26)), (42, (tL 5 Block.ty a0.Blocks)), (43, (tI ((a0.Blocks).length : Int))), (44, (tI s33.1))]) (fun x : (List (List Int)) => Item.blk g38 43 [(tL 6 VInstr.ty y36.Instrs), (tI y36.End), (tI y36.Reg), (tI y36.Target), (tI y36.Else)] :: Item.blk g9 136 [(Ty.own v7)] :: rowL v7 92 1 lO w34 :: rowsL w34 137 1 lU x :: Item.blk g1 27 [(tI a0.Params), (tI a0.Regs), (tL 5 Block.ty a0.Blocks)] :: L) ?_ ?_
            · refine okC_block ?_
              refine okC_loop (X := (Int × (List (List Int)))) (fun k x => regalloc_Interference_l3 K r26 s33 y36 k x = some z41) (fun x : (Int × (List (List Int))) => [(1, (pAt g1 0)), (3, (pAt g9 0)), (5, (Ty.val (.func (.func 97) #[] #[(.pointer (some ⟨g9, 0, none⟩))]))), (6, (tL 1 ls_SSI r26)), (7, (tI s33.1)), (42, (tL 5 Block.ty a0.Blocks)), (43, (tI ((a0.Blocks).length : Int))), (44, (tI s33.1)), (50, (tL 6 VInstr.ty y36.Instrs)), (51, (tI ((y36.Instrs).length : Int))), (52, (tI x.1))]) (fun x : (Int × (List (List Int))) => Item.blk g38 43 [(tL 6 VInstr.ty y36.Instrs), (tI y36.End), (tI y36.Reg), (tI y36.Target), (tI y36.Else)] :: Item.blk g9 136 [(Ty.own v7)] :: rowL v7 92 1 lO w34 :: rowsL w34 137 1 lU x.2 :: Item.blk g1 27 [(tI a0.Params), (tI a0.Regs), (tL 5 Block.ty a0.Blocks)] :: L) K (0, s33.2) h43 (cc rfl (cc rfl (cc rfl (cc rfl (cc rfl (cc rfl (cc rfl (cc rfl (cc rfl (cc rfl (cc rfl cn))))))))))) rfl (fun k s44 hI => ?_)
              change OkC _ _ _ [(1, (pAt g1 0)), (3, (pAt g9 0)), (5, (Ty.val (.func (.func 97) #[] #[(.pointer (some ⟨g9, 0, none⟩))]))), (6, (tL 1 ls_SSI r26)), (7, (tI s33.1)), (42, (tL 5 Block.ty a0.Blocks)), (43, (tI ((a0.Blocks).length : Int))), (44, (tI s33.1)), (50, (tL 6 VInstr.ty y36.Instrs)), (51, (tI ((y36.Instrs).length : Int))), (52, (tI s44.1))] (Item.blk g38 43 [(tL 6 VInstr.ty y36.Instrs), (tI y36.End), (tI y36.Reg), (tI y36.Target), (tI y36.Else)] :: Item.blk g9 136 [(Ty.own v7)] :: rowL v7 92 1 lO w34 :: rowsL w34 137 1 lU s44.2 :: Item.blk g1 27 [(tI a0.Params), (tI a0.Regs), (tL 5 Block.ty a0.Blocks)] :: L)
              cases k with
              | zero => exact (nz hI).elim
              | succ k =>
                have h : regalloc_Interference_l3 K r26 s33 y36 (k + 1) s44 = some z41 := hI
                rw [regalloc_Interference_l3.eq_2] at h
                refine okC_seq ?_
                refine okC_region ?_
                refine okL_step 53 (tB (decide (s44.1 < ((y36.Instrs).length : Int)))) rfl rfl (does_lss rfl rfl) ?_
                refine okL_nil ?_
                refine okX_next ?_
                refine okC_seq ?_
                refine okC_cond (b := (decide (s44.1 < ((y36.Instrs).length : Int)))) rfl (fun hb46 => ?_) (fun hb46 => ?_)
                · replace h := ct hb46 h
                  refine okC_skip ?_
                  refine okX_next ?_
                  refine okC_seq ?_
                  refine okC_block ?_
                  refine okC_seq ?_
                  refine okC_region ?_
                  refine okL_step 54 (tI s44.1) rfl rfl (does_move rfl) ?_
                  obtain ⟨y47, hi48, h⟩ := bs h
                  refine okL_step 55 (Ty.ptr [(tI y47.Instr.Op), (tI y47.Instr.A), (tI y47.Instr.B), (tI y47.Instr.C), (tI y47.Instr.N), (tL 1 lI y47.Args)]) rfl rfl (does_index (sz := 6) (f := VInstr.ty) (l := y36.Instrs) (n := s44.1) y47 Tryd.underlying41 Tryd.sizeOf48 hi48 rfl rfl) ?_
                  refine okL_step 56 (Ty.agg [(tI y47.Instr.Op), (tI y47.Instr.A), (tI y47.Instr.B), (tI y47.Instr.C), (tI y47.Instr.N), (tL 1 lI y47.Args)]) rfl rfl (does_loadA [(tI y47.Instr.Op), (tI y47.Instr.A), (tI y47.Instr.B), (tI y47.Instr.C), (tI y47.Instr.N), (tL 1 lI y47.Args)] Tryd.isAgg48 Tryd.sizeOf48 rfl rfl rfl) ?_
                  refine okL_stepO 10 rfl rfl (doesO_alloc [(tI 0), (tI 0), (tI 0), (tI 0), (tI 0), (Ty.val (.slice none 0 0))] Tryd.zeroValue48 (part_of (sub_agg [(.int .i64 0), (.int .i64 0), (.int .i64 0), (.int .i64 0), (.int .i64 0), (.slice none 0 0)] rfl) (part_agg _)) (fun g49 => ?_))
                  refine okL_step 9 (tI s44.1) rfl rfl (does_assign rfl) ?_
                  refine okL_stepU rfl (doesO_storeB (ps := [(tI y47.Instr.Op), (tI y47.Instr.A), (tI y47.Instr.B), (tI y47.Instr.C), (tI y47.Instr.N), (tL 1 lI y47.Args)]) 0 [(tI y47.Instr.Op), (tI y47.Instr.A), (tI y47.Instr.B), (tI y47.Instr.C), (tI y47.Instr.N), (tL 1 lI y47.Args)] (Item.blk g49 48 [(tI y47.Instr.Op), (tI y47.Instr.A), (tI y47.Instr.B), (tI y47.Instr.C), (tI y47.Instr.N), (tL 1 lI y47.Args)] :: Item.blk g38 43 [(tL 6 VInstr.ty y36.Instrs), (tI y36.End), (tI y36.Reg), (tI y36.Target), (tI y36.Else)] :: Item.blk g9 136 [(Ty.own v7)] :: rowL v7 92 1 lO w34 :: rowsL w34 137 1 lU s44.2 :: Item.blk g1 27 [(tI a0.Params), (tI a0.Regs), (tL 5 Block.ty a0.Blocks)] :: L) rfl rfl (part_agg _) Tryd.sizeOf48 rfl rfl rfl rfl ?_)
                  refine okL_nil ?_
                  refine okX_next ?_
                  refine okC_seq ?_
                  refine okC_region ?_
                  refine okL_step 57 (Ty.agg [(tI y47.Instr.Op), (tI y47.Instr.A), (tI y47.Instr.B), (tI y47.Instr.C), (tI y47.Instr.N), (tL 1 lI y47.Args)]) rfl rfl (does_loadBA [(tI y47.Instr.Op), (tI y47.Instr.A), (tI y47.Instr.B), (tI y47.Instr.C), (tI y47.Instr.N), (tL 1 lI y47.Args)] Tryd.isAgg48 Tryd.sizeOf48 rfl 0 rfl rfl rfl) ?_
                  obtain ⟨r50, hc51, h⟩ := bs h
                  refine okL_step 58 (tL 1 lI r50) rfl rfl (does_call0 (c_vcode_Writes y47 r50 hc51) rfl Tryd.call96 rfl) ?_
                  refine okL_step 59 (tI ((r50).length : Int)) rfl rfl (does_len (sz := 1) (f := lI) (l := r50) rfl Tryd.underlying31 rfl) ?_
                  refine okL_step 60 (tI 0) rfl rfl (does_move rfl) ?_
                  refine okL_nil ?_
                  refine okX_next ?_
                  obtain ⟨z54, h56, hz55⟩ := bs h
                  refine okC_meetE (X := (List (List Int))) (fun x => z54 = x) (fun x : (List (List Int)) => [(1, (pAt g1 0)), (3, (pAt g9 0)), (5, (Ty.val (.func (.func 97) #[] #[(.pointer (some ⟨g9, 0, none⟩))]))), (6, (tL 1 ls_SSI r26)), (7, (tI s33.1)), (42, (tL 5 Block.ty a0.Blocks)), (43, (tI ((a0.Blocks).length : Int))), (44, (tI s33.1)), (50, (tL 6 VInstr.ty y36.Instrs)), (51, (tI ((y36.Instrs).length : Int))), (52, (tI s44.1))]) (fun x : (List (List Int)) => Item.blk g49 48 [(tI y47.Instr.Op), (tI y47.Instr.A), (tI y47.Instr.B), (tI y47.Instr.C), (tI y47.Instr.N), (tL 1 lI y47.Args)] :: Item.blk g38 43 [(tL 6 VInstr.ty y36.Instrs), (tI y36.End), (tI y36.Reg), (tI y36.Target), (tI y36.Else)] :: Item.blk g9 136 [(Ty.own v7)] :: rowL v7 92 1 lO w34 :: rowsL w34 137 1 lU x :: Item.blk g1 27 [(tI a0.Params), (tI a0.Regs), (tL 5 Block.ty a0.Blocks)] :: L) ?_ ?_
                  · refine okC_block ?_
                    refine okC_loop (X := (Int × (List (List Int)))) (fun k x => regalloc_Interference_l4 K r26 s33 s44 y47 r50 k x = some z54) (fun x : (Int × (List (List Int))) => [(1, (pAt g1 0)), (3, (pAt g9 0)), (5, (Ty.val (.func (.func 97) #[] #[(.pointer (some ⟨g9, 0, none⟩))]))), (6, (tL 1 ls_SSI r26)), (7, (tI s33.1)), (9, (tI s44.1)), (10, (pAt g49 0)), (42, (tL 5 Block.ty a0.Blocks)), (43, (tI ((a0.Blocks).length : Int))), (44, (tI s33.1)), (50, (tL 6 VInstr.ty y36.Instrs)), (51, (tI ((y36.Instrs).length : Int))), (52, (tI s44.1)), (58, (tL 1 lI r50)), (59, (tI ((r50).length : Int))), (60, (tI x.1))]) (fun x : (Int × (List (List Int))) => Item.blk g49 48 [(tI y47.Instr.Op), (tI y47.Instr.A), (tI y47.Instr.B), (tI y47.Instr.C), (tI y47.Instr.N), (tL 1 lI y47.Args)] :: Item.blk g38 43 [(tL 6 VInstr.ty y36.Instrs), (tI y36.End), (tI y36.Reg), (tI y36.Target), (tI y36.Else)] :: Item.blk g9 136 [(Ty.own v7)] :: rowL v7 92 1 lO w34 :: rowsL w34 137 1 lU x.2 :: Item.blk g1 27 [(tI a0.Params), (tI a0.Regs), (tL 5 Block.ty a0.Blocks)] :: L) K (0, s44.2) h56 (cc rfl (cc rfl (cc rfl (cc rfl (cc rfl (cc rfl (cc rfl (cc rfl (cc rfl (cc rfl (cc rfl (cc rfl (cc rfl (cc rfl (cc rfl (cc rfl cn)))))))))))))))) rfl (fun k s57 hI => ?_)
                    change OkC _ _ _ [(1, (pAt g1 0)), (3, (pAt g9 0)), (5, (Ty.val (.func (.func 97) #[] #[(.pointer (some ⟨g9, 0, none⟩))]))), (6, (tL 1 ls_SSI r26)), (7, (tI s33.1)), (9, (tI s44.1)), (10, (pAt g49 0)), (42, (tL 5 Block.ty a0.Blocks)), (43, (tI ((a0.Blocks).length : Int))), (44, (tI s33.1)), (50, (tL 6 VInstr.ty y36.Instrs)), (51, (tI ((y36.Instrs).length : Int))), (52, (tI s44.1)), (58, (tL 1 lI r50)), (59, (tI ((r50).length : Int))), (60, (tI s57.1))] (Item.blk g49 48 [(tI y47.Instr.Op), (tI y47.Instr.A), (tI y47.Instr.B), (tI y47.Instr.C), (tI y47.Instr.N), (tL 1 lI y47.Args)] :: Item.blk g38 43 [(tL 6 VInstr.ty y36.Instrs), (tI y36.End), (tI y36.Reg), (tI y36.Target), (tI y36.Else)] :: Item.blk g9 136 [(Ty.own v7)] :: rowL v7 92 1 lO w34 :: rowsL w34 137 1 lU s57.2 :: Item.blk g1 27 [(tI a0.Params), (tI a0.Regs), (tL 5 Block.ty a0.Blocks)] :: L)
                    cases k with
                    | zero => exact (nz hI).elim
                    | succ k =>
                      have h : regalloc_Interference_l4 K r26 s33 s44 y47 r50 (k + 1) s57 = some z54 := hI
                      rw [regalloc_Interference_l4.eq_2] at h
                      refine okC_seq ?_
                      refine okC_region ?_
                      refine okL_step 61 (tB (decide (s57.1 < ((r50).length : Int)))) rfl rfl (does_lss rfl rfl) ?_
                      refine okL_nil ?_
                      refine okX_next ?_
                      refine okC_seq ?_
                      refine okC_cond (b := (decide (s57.1 < ((r50).length : Int)))) rfl (fun hb59 => ?_) (fun hb59 => ?_)
                      · replace h := ct hb59 h
                        refine okC_skip ?_
                        refine okX_next ?_
                        refine okC_seq ?_
                        refine okC_block ?_
                        refine okC_seq ?_
                        refine okC_region ?_
                        obtain ⟨y60, hi61, h⟩ := bs h
                        refine okL_step 62 (Ty.ptr [(tI y60)]) rfl rfl (does_index (sz := 1) (f := lI) (l := r50) (n := s57.1) y60 Tryd.underlying31 Tryd.sizeOf3 hi61 rfl rfl) ?_
                        refine okL_step 63 (tI y60) rfl rfl (does_load1 Tryd.isAgg3 rfl) ?_
                        refine okL_step 12 (tI y60) rfl rfl (does_assign rfl) ?_
                        refine okL_nil ?_
                        refine okX_next ?_
                        refine okC_seq ?_
                        refine okC_region ?_
                        refine okL_step 64 (tL 1 ls_SSI r26) rfl rfl (does_move rfl) ?_
                        refine okL_step 65 (tI s33.1) rfl rfl (does_move rfl) ?_
                        obtain ⟨y62, hi63, h⟩ := bs h
                        refine okL_step 66 (Ty.ptr [(tL 1 lIs y62)]) rfl rfl (does_index (sz := 1) (f := ls_SSI) (l := r26) (n := s33.1) y62 Tryd.underlying132 Tryd.sizeOf22 hi63 rfl rfl) ?_
                        refine okL_step 67 (tL 1 lIs y62) rfl rfl (does_load1 Tryd.isAgg22 rfl) ?_
                        refine okL_step 68 (tI s44.1) rfl rfl (does_move rfl) ?_
                        refine okL_step 69 (tI (w64 (s44.1 + 1))) rfl rfl (does_add rfl rfl) ?_
                        obtain ⟨y64, hi65, h⟩ := bs h
                        refine okL_step 70 (Ty.ptr [(tL 1 lI y64)]) rfl rfl (does_index (sz := 1) (f := lIs) (l := y62) (n := (w64 (s44.1 + 1))) y64 Tryd.underlying22 Tryd.sizeOf31 hi65 rfl rfl) ?_
                        refine okL_step 71 (tL 1 lI y64) rfl rfl (does_load1 Tryd.isAgg31 rfl) ?_
                        refine okL_step 72 (tI ((y64).length : Int)) rfl rfl (does_len (sz := 1) (f := lI) (l := y64) rfl Tryd.underlying31 rfl) ?_
                        refine okL_step 73 (tI 0) rfl rfl (does_move rfl) ?_
                        refine okL_nil ?_
                        refine okX_next ?_
                        obtain ⟨z68, h70, hz69⟩ := bs h
                        refine okC_meetE (X := (List (List Int))) (fun x => z68 = x) (fun x : (List (List Int)) => [(1, (pAt g1 0)), (3, (pAt g9 0)), (5, (Ty.val (.func (.func 97) #[] #[(.pointer (some ⟨g9, 0, none⟩))]))), (6, (tL 1 ls_SSI r26)), (7, (tI s33.1)), (9, (tI s44.1)), (10, (pAt g49 0)), (42, (tL 5 Block.ty a0.Blocks)), (43, (tI ((a0.Blocks).length : Int))), (44, (tI s33.1)), (50, (tL 6 VInstr.ty y36.Instrs)), (51, (tI ((y36.Instrs).length : Int))), (52, (tI s44.1)), (58, (tL 1 lI r50)), (59, (tI ((r50).length : Int))), (60, (tI s57.1))]) (fun x : (List (List Int)) => Item.blk g49 48 [(tI y47.Instr.Op), (tI y47.Instr.A), (tI y47.Instr.B), (tI y47.Instr.C), (tI y47.Instr.N), (tL 1 lI y47.Args)] :: Item.blk g38 43 [(tL 6 VInstr.ty y36.Instrs), (tI y36.End), (tI y36.Reg), (tI y36.Target), (tI y36.Else)] :: Item.blk g9 136 [(Ty.own v7)] :: rowL v7 92 1 lO w34 :: rowsL w34 137 1 lU x :: Item.blk g1 27 [(tI a0.Params), (tI a0.Regs), (tL 5 Block.ty a0.Blocks)] :: L) ?_ ?_
                        · refine okC_block ?_
                          refine okC_loop (X := (Int × (List (List Int)))) (fun k x => regalloc_Interference_l5 K y47 y60 y64 k x = some z68) (fun x : (Int × (List (List Int))) => [(1, (pAt g1 0)), (3, (pAt g9 0)), (5, (Ty.val (.func (.func 97) #[] #[(.pointer (some ⟨g9, 0, none⟩))]))), (6, (tL 1 ls_SSI r26)), (7, (tI s33.1)), (9, (tI s44.1)), (10, (pAt g49 0)), (12, (tI y60)), (42, (tL 5 Block.ty a0.Blocks)), (43, (tI ((a0.Blocks).length : Int))), (44, (tI s33.1)), (50, (tL 6 VInstr.ty y36.Instrs)), (51, (tI ((y36.Instrs).length : Int))), (52, (tI s44.1)), (58, (tL 1 lI r50)), (59, (tI ((r50).length : Int))), (60, (tI s57.1)), (71, (tL 1 lI y64)), (72, (tI ((y64).length : Int))), (73, (tI x.1))]) (fun x : (Int × (List (List Int))) => Item.blk g49 48 [(tI y47.Instr.Op), (tI y47.Instr.A), (tI y47.Instr.B), (tI y47.Instr.C), (tI y47.Instr.N), (tL 1 lI y47.Args)] :: Item.blk g38 43 [(tL 6 VInstr.ty y36.Instrs), (tI y36.End), (tI y36.Reg), (tI y36.Target), (tI y36.Else)] :: Item.blk g9 136 [(Ty.own v7)] :: rowL v7 92 1 lO w34 :: rowsL w34 137 1 lU x.2 :: Item.blk g1 27 [(tI a0.Params), (tI a0.Regs), (tL 5 Block.ty a0.Blocks)] :: L) K (0, s57.2) h70 (cc rfl (cc rfl (cc rfl (cc rfl (cc rfl (cc rfl (cc rfl (cc rfl (cc rfl (cc rfl (cc rfl (cc rfl (cc rfl (cc rfl (cc rfl (cc rfl (cc rfl (cc rfl (cc rfl (cc rfl cn)))))))))))))))))))) rfl (fun k s71 hI => ?_)
                          change OkC _ _ _ [(1, (pAt g1 0)), (3, (pAt g9 0)), (5, (Ty.val (.func (.func 97) #[] #[(.pointer (some ⟨g9, 0, none⟩))]))), (6, (tL 1 ls_SSI r26)), (7, (tI s33.1)), (9, (tI s44.1)), (10, (pAt g49 0)), (12, (tI y60)), (42, (tL 5 Block.ty a0.Blocks)), (43, (tI ((a0.Blocks).length : Int))), (44, (tI s33.1)), (50, (tL 6 VInstr.ty y36.Instrs)), (51, (tI ((y36.Instrs).length : Int))), (52, (tI s44.1)), (58, (tL 1 lI r50)), (59, (tI ((r50).length : Int))), (60, (tI s57.1)), (71, (tL 1 lI y64)), (72, (tI ((y64).length : Int))), (73, (tI s71.1))] (Item.blk g49 48 [(tI y47.Instr.Op), (tI y47.Instr.A), (tI y47.Instr.B), (tI y47.Instr.C), (tI y47.Instr.N), (tL 1 lI y47.Args)] :: Item.blk g38 43 [(tL 6 VInstr.ty y36.Instrs), (tI y36.End), (tI y36.Reg), (tI y36.Target), (tI y36.Else)] :: Item.blk g9 136 [(Ty.own v7)] :: rowL v7 92 1 lO w34 :: rowsL w34 137 1 lU s71.2 :: Item.blk g1 27 [(tI a0.Params), (tI a0.Regs), (tL 5 Block.ty a0.Blocks)] :: L)
                          cases k with
                          | zero => exact (nz hI).elim
                          | succ k =>
                            have h : regalloc_Interference_l5 K y47 y60 y64 (k + 1) s71 = some z68 := hI
                            rw [regalloc_Interference_l5.eq_2] at h
                            refine okC_seq ?_
                            refine okC_region ?_
                            refine okL_step 74 (tB (decide (s71.1 < ((y64).length : Int)))) rfl rfl (does_lss rfl rfl) ?_
                            refine okL_nil ?_
                            refine okX_next ?_
                            refine okC_seq ?_
                            refine okC_cond (b := (decide (s71.1 < ((y64).length : Int)))) rfl (fun hb73 => ?_) (fun hb73 => ?_)
                            · replace h := ct hb73 h
                              refine okC_skip ?_
                              refine okX_next ?_
                              obtain ⟨z76, h78, hz77⟩ := bs h
                              refine okC_meet (X := (List (List Int))) (fun x => z76 = x) (fun x : (List (List Int)) => [(1, (pAt g1 0)), (3, (pAt g9 0)), (5, (Ty.val (.func (.func 97) #[] #[(.pointer (some ⟨g9, 0, none⟩))]))), (6, (tL 1 ls_SSI r26)), (7, (tI s33.1)), (9, (tI s44.1)), (10, (pAt g49 0)), (12, (tI y60)), (42, (tL 5 Block.ty a0.Blocks)), (43, (tI ((a0.Blocks).length : Int))), (44, (tI s33.1)), (50, (tL 6 VInstr.ty y36.Instrs)), (51, (tI ((y36.Instrs).length : Int))), (52, (tI s44.1)), (58, (tL 1 lI r50)), (59, (tI ((r50).length : Int))), (60, (tI s57.1)), (71, (tL 1 lI y64)), (72, (tI ((y64).length : Int))), (73, (tI s71.1))]) (fun x : (List (List Int)) => Item.blk g49 48 [(tI y47.Instr.Op), (tI y47.Instr.A), (tI y47.Instr.B), (tI y47.Instr.C), (tI y47.Instr.N), (tL 1 lI y47.Args)] :: Item.blk g38 43 [(tL 6 VInstr.ty y36.Instrs), (tI y36.End), (tI y36.Reg), (tI y36.Target), (tI y36.Else)] :: Item.blk g9 136 [(Ty.own v7)] :: rowL v7 92 1 lO w34 :: rowsL w34 137 1 lU x :: Item.blk g1 27 [(tI a0.Params), (tI a0.Regs), (tL 5 Block.ty a0.Blocks)] :: L) ?_ ?_
                              · refine okC_block ?_
                                refine okC_seq ?_
                                refine okC_region ?_
                                obtain ⟨y79, hi80, h78⟩ := bs h78
                                refine okL_step 75 (Ty.ptr [(tI y79)]) rfl rfl (does_index (sz := 1) (f := lI) (l := y64) (n := s71.1) y79 Tryd.underlying31 Tryd.sizeOf3 hi80 rfl rfl) ?_
                                refine okL_step 76 (tI y79) rfl rfl (does_load1 Tryd.isAgg3 rfl) ?_
                                refine okL_step 14 (tI y79) rfl rfl (does_assign rfl) ?_
                                refine okL_nil ?_
                                refine okX_next ?_
                                refine okC_seq ?_
                                refine okC_region ?_
                                refine okL_step 77 (tI y79) rfl rfl (does_move rfl) ?_
                                refine okL_step 78 (tI y60) rfl rfl (does_move rfl) ?_
                                refine okL_step 79 (tB (y79 != y60)) rfl rfl (does_neq rfl rfl) ?_
                                refine okL_step 80 (tB (y79 != y60)) rfl rfl (does_move rfl) ?_
                                refine okL_meet (X := Bool) 13 (fun x => x = ((y79 != y60) && (!((y47.Instr.Op == 10) && (y79 == y47.Instr.B))))) (fun x : Bool => [(1, (pAt g1 0)), (3, (pAt g9 0)), (5, (Ty.val (.func (.func 97) #[] #[(.pointer (some ⟨g9, 0, none⟩))]))), (6, (tL 1 ls_SSI r26)), (7, (tI s33.1)), (9, (tI s44.1)), (10, (pAt g49 0)), (12, (tI y60)), (14, (tI y79)), (42, (tL 5 Block.ty a0.Blocks)), (43, (tI ((a0.Blocks).length : Int))), (44, (tI s33.1)), (50, (tL 6 VInstr.ty y36.Instrs)), (51, (tI ((y36.Instrs).length : Int))), (52, (tI s44.1)), (58, (tL 1 lI r50)), (59, (tI ((r50).length : Int))), (60, (tI s57.1)), (71, (tL 1 lI y64)), (72, (tI ((y64).length : Int))), (73, (tI s71.1)), (93, (tB x))]) (fun x : Bool => Item.blk g49 48 [(tI y47.Instr.Op), (tI y47.Instr.A), (tI y47.Instr.B), (tI y47.Instr.C), (tI y47.Instr.N), (tL 1 lI y47.Args)] :: Item.blk g38 43 [(tL 6 VInstr.ty y36.Instrs), (tI y36.End), (tI y36.Reg), (tI y36.Target), (tI y36.Else)] :: Item.blk g9 136 [(Ty.own v7)] :: rowL v7 92 1 lO w34 :: rowsL w34 137 1 lU s71.2 :: Item.blk g1 27 [(tI a0.Params), (tI a0.Regs), (tL 5 Block.ty a0.Blocks)] :: L) _ rfl ?_ ?_
                                · refine okL_split (y79 != y60) (fun hb81 => ?_) (fun hb81 => ?_)
                                  · refine okL_guard 81 (pAt g49 0) 80 (y79 != y60) rfl rfl hb81 rfl rfl (does_fieldAddrP 0 Tryd.underlying48 rfl Tryd.sizeOf46 rfl rfl) ?_
                                    refine okL_guard 82 (pAt g49 0) 80 (y79 != y60) rfl rfl hb81 rfl rfl (does_fieldAddrP 0 Tryd.underlying46 rfl Tryd.sizeOf3 rfl rfl) ?_
                                    refine okL_guard 83 (tI y47.Instr.Op) 80 (y79 != y60) rfl rfl hb81 rfl rfl (does_loadB1 Tryd.isAgg3 rfl 0 rfl rfl) ?_
                                    refine okL_guard 84 (tB (y47.Instr.Op == 10)) 80 (y79 != y60) rfl rfl hb81 rfl rfl (does_eql rfl rfl) ?_
                                    refine okL_guard 85 (tB (y47.Instr.Op == 10)) 80 (y79 != y60) rfl rfl hb81 rfl rfl (does_move rfl) ?_
                                    refine okL_meet (X := Bool) 6 (fun x => x = ((y47.Instr.Op == 10) && (y79 == y47.Instr.B))) (fun x : Bool => [(1, (pAt g1 0)), (3, (pAt g9 0)), (5, (Ty.val (.func (.func 97) #[] #[(.pointer (some ⟨g9, 0, none⟩))]))), (6, (tL 1 ls_SSI r26)), (7, (tI s33.1)), (9, (tI s44.1)), (10, (pAt g49 0)), (12, (tI y60)), (14, (tI y79)), (42, (tL 5 Block.ty a0.Blocks)), (43, (tI ((a0.Blocks).length : Int))), (44, (tI s33.1)), (50, (tL 6 VInstr.ty y36.Instrs)), (51, (tI ((y36.Instrs).length : Int))), (52, (tI s44.1)), (58, (tL 1 lI r50)), (59, (tI ((r50).length : Int))), (60, (tI s57.1)), (71, (tL 1 lI y64)), (72, (tI ((y64).length : Int))), (73, (tI s71.1)), (80, (tB (y79 != y60))), (81, (pAt g49 0)), (82, (pAt g49 0)), (83, (tI y47.Instr.Op)), (84, (tB (y47.Instr.Op == 10))), (85, (tB (y47.Instr.Op == 10))), (91, (tB x))]) (fun x : Bool => Item.blk g49 48 [(tI y47.Instr.Op), (tI y47.Instr.A), (tI y47.Instr.B), (tI y47.Instr.C), (tI y47.Instr.N), (tL 1 lI y47.Args)] :: Item.blk g38 43 [(tL 6 VInstr.ty y36.Instrs), (tI y36.End), (tI y36.Reg), (tI y36.Target), (tI y36.Else)] :: Item.blk g9 136 [(Ty.own v7)] :: rowL v7 92 1 lO w34 :: rowsL w34 137 1 lU s71.2 :: Item.blk g1 27 [(tI a0.Params), (tI a0.Regs), (tL 5 Block.ty a0.Blocks)] :: L) _ rfl ?_ ?_
                                    · refine okL_split (y47.Instr.Op == 10) (fun hb82 => ?_) (fun hb82 => ?_)
                                      · refine okL_guard 86 (tI y79) 85 (y47.Instr.Op == 10) rfl rfl hb82 rfl rfl (does_move rfl) ?_
                                        refine okL_guard 87 (pAt g49 0) 85 (y47.Instr.Op == 10) rfl rfl hb82 rfl rfl (does_fieldAddrP 0 Tryd.underlying48 rfl Tryd.sizeOf46 rfl rfl) ?_
                                        refine okL_guard 88 (pAt g49 2) 85 (y47.Instr.Op == 10) rfl rfl hb82 rfl rfl (does_fieldAddrP 2 Tryd.underlying46 rfl Tryd.sizeOf3 rfl rfl) ?_
                                        refine okL_guard 89 (tI y47.Instr.B) 85 (y47.Instr.Op == 10) rfl rfl hb82 rfl rfl (does_loadB1 Tryd.isAgg3 rfl 0 rfl rfl) ?_
                                        refine okL_guard 90 (tB (y79 == y47.Instr.B)) 85 (y47.Instr.Op == 10) rfl rfl hb82 rfl rfl (does_eql rfl rfl) ?_
                                        refine okL_guard 91 (tB (y79 == y47.Instr.B)) 80 (y79 != y60) rfl rfl hb81 rfl rfl (does_pick_t (y47.Instr.Op == 10) rfl hb82 rfl) ?_
                                        refine okL_nil ?_
                                        exact okX_meet (I := _) (y79 == y47.Instr.B) (and_t hb82) (cc rfl (cc rfl (cc rfl (cc rfl (cc rfl (cc rfl (cc rfl (cc rfl (cc rfl (cc rfl (cc rfl (cc rfl (cc rfl (cc rfl (cc rfl (cc rfl (cc rfl (cc rfl (cc rfl (cc rfl (cc rfl (cc rfl (cc rfl (cc rfl (cc rfl (cc rfl (cc rfl (cc rfl cn)))))))))))))))))))))))))))) rfl
                                      · refine okL_skip 86 85 (y47.Instr.Op == 10) rfl rfl hb82 rfl rfl ?_
                                        refine okL_skip 87 85 (y47.Instr.Op == 10) rfl rfl hb82 rfl rfl ?_
                                        refine okL_skip 88 85 (y47.Instr.Op == 10) rfl rfl hb82 rfl rfl ?_
                                        refine okL_skip 89 85 (y47.Instr.Op == 10) rfl rfl hb82 rfl rfl ?_
                                        refine okL_skip 90 85 (y47.Instr.Op == 10) rfl rfl hb82 rfl rfl ?_
                                        refine okL_guard 91 (tB false) 80 (y79 != y60) rfl rfl hb81 rfl rfl (does_pick_f (y47.Instr.Op == 10) rfl hb82 rfl) ?_
                                        refine okL_nil ?_
                                        exact okX_meet (I := _) false (and_f hb82) (cc rfl (cc rfl (cc rfl (cc rfl (cc rfl (cc rfl (cc rfl (cc rfl (cc rfl (cc rfl (cc rfl (cc rfl (cc rfl (cc rfl (cc rfl (cc rfl (cc rfl (cc rfl (cc rfl (cc rfl (cc rfl (cc rfl (cc rfl (cc rfl (cc rfl (cc rfl (cc rfl (cc rfl cn)))))))))))))))))))))))))))) rfl
                                    · intro x83 hx
                                      subst hx
                                      change OkL _ _ _ _ [(1, (pAt g1 0)), (3, (pAt g9 0)), (5, (Ty.val (.func (.func 97) #[] #[(.pointer (some ⟨g9, 0, none⟩))]))), (6, (tL 1 ls_SSI r26)), (7, (tI s33.1)), (9, (tI s44.1)), (10, (pAt g49 0)), (12, (tI y60)), (14, (tI y79)), (42, (tL 5 Block.ty a0.Blocks)), (43, (tI ((a0.Blocks).length : Int))), (44, (tI s33.1)), (50, (tL 6 VInstr.ty y36.Instrs)), (51, (tI ((y36.Instrs).length : Int))), (52, (tI s44.1)), (58, (tL 1 lI r50)), (59, (tI ((r50).length : Int))), (60, (tI s57.1)), (71, (tL 1 lI y64)), (72, (tI ((y64).length : Int))), (73, (tI s71.1)), (80, (tB (y79 != y60))), (81, (pAt g49 0)), (82, (pAt g49 0)), (83, (tI y47.Instr.Op)), (84, (tB (y47.Instr.Op == 10))), (85, (tB (y47.Instr.Op == 10))), (91, (tB ((y47.Instr.Op == 10) && (y79 == y47.Instr.B))))] (Item.blk g49 48 [(tI y47.Instr.Op), (tI y47.Instr.A), (tI y47.Instr.B), (tI y47.Instr.C), (tI y47.Instr.N), (tL 1 lI y47.Args)] :: Item.blk g38 43 [(tL 6 VInstr.ty y36.Instrs), (tI y36.End), (tI y36.Reg), (tI y36.Target), (tI y36.Else)] :: Item.blk g9 136 [(Ty.own v7)] :: rowL v7 92 1 lO w34 :: rowsL w34 137 1 lU s71.2 :: Item.blk g1 27 [(tI a0.Params), (tI a0.Regs), (tL 5 Block.ty a0.Blocks)] :: L)
                                      refine okL_guard 92 (tB (!((y47.Instr.Op == 10) && (y79 == y47.Instr.B)))) 80 (y79 != y60) rfl rfl hb81 rfl rfl (does_not rfl) ?_
                                      refine okL_step 93 (tB (!((y47.Instr.Op == 10) && (y79 == y47.Instr.B)))) rfl rfl (does_pick_t (y79 != y60) rfl hb81 rfl) ?_
                                      refine okL_nil ?_
                                      exact okX_meet (I := _) (!((y47.Instr.Op == 10) && (y79 == y47.Instr.B))) (and_t hb81) (cc rfl (cc rfl (cc rfl (cc rfl (cc rfl (cc rfl (cc rfl (cc rfl (cc rfl (cc rfl (cc rfl (cc rfl (cc rfl (cc rfl (cc rfl (cc rfl (cc rfl (cc rfl (cc rfl (cc rfl (cc rfl (cc rfl cn)))))))))))))))))))))) rfl
                                  · refine okL_skip 81 80 (y79 != y60) rfl rfl hb81 rfl rfl ?_
                                    refine okL_skip 82 80 (y79 != y60) rfl rfl hb81 rfl rfl ?_
                                    refine okL_skip 83 80 (y79 != y60) rfl rfl hb81 rfl rfl ?_
                                    refine okL_skip 84 80 (y79 != y60) rfl rfl hb81 rfl rfl ?_
                                    refine okL_skip 85 80 (y79 != y60) rfl rfl hb81 rfl rfl ?_
                                    refine okL_skipU 86 85 rfl rfl rfl rfl ?_
                                    refine okL_skipU 87 85 rfl rfl rfl rfl ?_
                                    refine okL_skipU 88 85 rfl rfl rfl rfl ?_
                                    refine okL_skipU 89 85 rfl rfl rfl rfl ?_
                                    refine okL_skipU 90 85 rfl rfl rfl rfl ?_
                                    refine okL_skip 91 80 (y79 != y60) rfl rfl hb81 rfl rfl ?_
                                    refine okL_skip 92 80 (y79 != y60) rfl rfl hb81 rfl rfl ?_
                                    refine okL_step 93 (tB false) rfl rfl (does_pick_f (y79 != y60) rfl hb81 rfl) ?_
                                    refine okL_nil ?_
                                    exact okX_meet (I := _) false (and_f hb81) (cc rfl (cc rfl (cc rfl (cc rfl (cc rfl (cc rfl (cc rfl (cc rfl (cc rfl (cc rfl (cc rfl (cc rfl (cc rfl (cc rfl (cc rfl (cc rfl (cc rfl (cc rfl (cc rfl (cc rfl (cc rfl (cc rfl cn)))))))))))))))))))))) rfl
                                · intro x87 hx
                                  subst hx
                                  change OkL _ _ _ _ [(1, (pAt g1 0)), (3, (pAt g9 0)), (5, (Ty.val (.func (.func 97) #[] #[(.pointer (some ⟨g9, 0, none⟩))]))), (6, (tL 1 ls_SSI r26)), (7, (tI s33.1)), (9, (tI s44.1)), (10, (pAt g49 0)), (12, (tI y60)), (14, (tI y79)), (42, (tL 5 Block.ty a0.Blocks)), (43, (tI ((a0.Blocks).length : Int))), (44, (tI s33.1)), (50, (tL 6 VInstr.ty y36.Instrs)), (51, (tI ((y36.Instrs).length : Int))), (52, (tI s44.1)), (58, (tL 1 lI r50)), (59, (tI ((r50).length : Int))), (60, (tI s57.1)), (71, (tL 1 lI y64)), (72, (tI ((y64).length : Int))), (73, (tI s71.1)), (93, (tB ((y79 != y60) && (!((y47.Instr.Op == 10) && (y79 == y47.Instr.B))))))] (Item.blk g49 48 [(tI y47.Instr.Op), (tI y47.Instr.A), (tI y47.Instr.B), (tI y47.Instr.C), (tI y47.Instr.N), (tL 1 lI y47.Args)] :: Item.blk g38 43 [(tL 6 VInstr.ty y36.Instrs), (tI y36.End), (tI y36.Reg), (tI y36.Target), (tI y36.Else)] :: Item.blk g9 136 [(Ty.own v7)] :: rowL v7 92 1 lO w34 :: rowsL w34 137 1 lU s71.2 :: Item.blk g1 27 [(tI a0.Params), (tI a0.Regs), (tL 5 Block.ty a0.Blocks)] :: L)
                                  refine okL_nil ?_
                                  refine okX_next ?_
                                  refine okC_cond (b := ((y79 != y60) && (!((y47.Instr.Op == 10) && (y79 == y47.Instr.B))))) rfl (fun hb84 => ?_) (fun hb84 => ?_)
                                  · replace h78 := ct hb84 h78
                                    refine okC_region ?_
                                    refine okL_step 94 (Ty.val (.func (.func 97) #[] #[(.pointer (some ⟨g9, 0, none⟩))])) rfl rfl (does_move rfl) ?_
                                    refine okL_step 95 (tI y60) rfl rfl (does_move rfl) ?_
                                    refine okL_step 96 (tI y79) rfl rfl (does_move rfl) ?_
                                    obtain ⟨r85, hc86, h78⟩ := bs h78
                                    refine okL_stepO 97 rfl rfl (doesO_call (As := [(tI y60), (tI y79)]) (Cs := [(pAt g9 0)]) (Item.blk g49 48 [(tI y47.Instr.Op), (tI y47.Instr.A), (tI y47.Instr.B), (tI y47.Instr.C), (tI y47.Instr.N), (tL 1 lI y47.Args)] :: Item.blk g38 43 [(tL 6 VInstr.ty y36.Instrs), (tI y36.End), (tI y36.Reg), (tI y36.Target), (tI y36.Else)] :: Item.blk g1 27 [(tI a0.Params), (tI a0.Regs), (tL 5 Block.ty a0.Blocks)] :: L) (c_regalloc_Interference_1 y60 y79 s71.2 g9 v7 w34 r85 hc86) rfl Tryd.call97 rfl rfl rfl (pm 2 rfl (pm 2 rfl (pm 2 rfl (pr _)))) (fun _ => ?_))
                                    refine okL_nil ?_
                                    refine okX_block_normal ?_
                                    refine okX_items [] (Item.blk g49 48 [(tI y47.Instr.Op), (tI y47.Instr.A), (tI y47.Instr.B), (tI y47.Instr.C), (tI y47.Instr.N), (tL 1 lI y47.Args)] :: Item.blk g38 43 [(tL 6 VInstr.ty y36.Instrs), (tI y36.End), (tI y36.Reg), (tI y36.Target), (tI y36.Else)] :: Item.blk g9 136 [(Ty.own v7)] :: rowL v7 92 1 lO w34 :: rowsL w34 137 1 lU r85 :: Item.blk g1 27 [(tI a0.Params), (tI a0.Regs), (tL 5 Block.ty a0.Blocks)] :: L) (pm 3 rfl (pm 3 rfl (pm 0 rfl (pm 0 rfl (pm 0 rfl (pm 0 rfl (pr _))))))) ?_
                                    exact okX_meet (I := _) r85 (smh h78) (cc rfl (cc rfl (cc rfl (cc rfl (cc rfl (cc rfl (cc rfl (cc rfl (cc rfl (cc rfl (cc rfl (cc rfl (cc rfl (cc rfl (cc rfl (cc rfl (cc rfl (cc rfl (cc rfl (cc rfl cn)))))))))))))))))))) rfl
                                  · replace h78 := cf hb84 h78
                                    refine okC_skip ?_
                                    refine okX_block_normal ?_
                                    exact okX_meet (I := _) s71.2 (smh h78) (cc rfl (cc rfl (cc rfl (cc rfl (cc rfl (cc rfl (cc rfl (cc rfl (cc rfl (cc rfl (cc rfl (cc rfl (cc rfl (cc rfl (cc rfl (cc rfl (cc rfl (cc rfl (cc rfl (cc rfl cn)))))))))))))))))))) rfl
                              · intro s74 hx
                                change OkC _ _ _ [(1, (pAt g1 0)), (3, (pAt g9 0)), (5, (Ty.val (.func (.func 97) #[] #[(.pointer (some ⟨g9, 0, none⟩))]))), (6, (tL 1 ls_SSI r26)), (7, (tI s33.1)), (9, (tI s44.1)), (10, (pAt g49 0)), (12, (tI y60)), (42, (tL 5 Block.ty a0.Blocks)), (43, (tI ((a0.Blocks).length : Int))), (44, (tI s33.1)), (50, (tL 6 VInstr.ty y36.Instrs)), (51, (tI ((y36.Instrs).length : Int))), (52, (tI s44.1)), (58, (tL 1 lI r50)), (59, (tI ((r50).length : Int))), (60, (tI s57.1)), (71, (tL 1 lI y64)), (72, (tI ((y64).length : Int))), (73, (tI s71.1))] (Item.blk g49 48 [(tI y47.Instr.Op), (tI y47.Instr.A), (tI y47.Instr.B), (tI y47.Instr.C), (tI y47.Instr.N), (tL 1 lI y47.Args)] :: Item.blk g38 43 [(tL 6 VInstr.ty y36.Instrs), (tI y36.End), (tI y36.Reg), (tI y36.Target), (tI y36.Else)] :: Item.blk g9 136 [(Ty.own v7)] :: rowL v7 92 1 lO w34 :: rowsL w34 137 1 lU s74 :: Item.blk g1 27 [(tI a0.Params), (tI a0.Regs), (tL 5 Block.ty a0.Blocks)] :: L)
                                obtain rfl : s74 = z76 := hx.symm
                                replace h := hz77
                                refine okC_region ?_
                                refine okL_step 98 (tI (w64 (s71.1 + 1))) rfl rfl (does_add rfl rfl) ?_
                                refine okL_step 73 (tI (w64 (s71.1 + 1))) rfl rfl (does_move rfl) ?_
                                refine okL_nil ?_
                                exact okX_again k (Nat.lt_succ_self k) ((w64 (s71.1 + 1)), s74) h (cc rfl (cc rfl (cc rfl (cc rfl (cc rfl (cc rfl (cc rfl (cc rfl (cc rfl (cc rfl (cc rfl (cc rfl (cc rfl (cc rfl (cc rfl (cc rfl (cc rfl (cc rfl (cc rfl (cc rfl cn)))))))))))))))))))) rfl
                            · replace h := cf hb73 h
                              refine okC_exit ?_
                              refine okX_then_exit ?_
                              refine okX_again_exit ?_
                              refine okX_block_hit ?_
                              exact okX_meet (I := _) s71.2 (smh h) (cc rfl (cc rfl (cc rfl (cc rfl (cc rfl (cc rfl (cc rfl (cc rfl (cc rfl (cc rfl (cc rfl (cc rfl (cc rfl (cc rfl (cc rfl (cc rfl cn)))))))))))))))) rfl
                        · intro s66 hx
                          change OkX _ _ _ [(1, (pAt g1 0)), (3, (pAt g9 0)), (5, (Ty.val (.func (.func 97) #[] #[(.pointer (some ⟨g9, 0, none⟩))]))), (6, (tL 1 ls_SSI r26)), (7, (tI s33.1)), (9, (tI s44.1)), (10, (pAt g49 0)), (42, (tL 5 Block.ty a0.Blocks)), (43, (tI ((a0.Blocks).length : Int))), (44, (tI s33.1)), (50, (tL 6 VInstr.ty y36.Instrs)), (51, (tI ((y36.Instrs).length : Int))), (52, (tI s44.1)), (58, (tL 1 lI r50)), (59, (tI ((r50).length : Int))), (60, (tI s57.1))] (Item.blk g49 48 [(tI y47.Instr.Op), (tI y47.Instr.A), (tI y47.Instr.B), (tI y47.Instr.C), (tI y47.Instr.N), (tL 1 lI y47.Args)] :: Item.blk g38 43 [(tL 6 VInstr.ty y36.Instrs), (tI y36.End), (tI y36.Reg), (tI y36.Target), (tI y36.Else)] :: Item.blk g9 136 [(Ty.own v7)] :: rowL v7 92 1 lO w34 :: rowsL w34 137 1 lU s66 :: Item.blk g1 27 [(tI a0.Params), (tI a0.Regs), (tL 5 Block.ty a0.Blocks)] :: L)
                          obtain rfl : s66 = z68 := hx.symm
                          replace h := hz69
                          refine okX_block_normal ?_
                          refine okX_next ?_
                          refine okC_region ?_
                          refine okL_step 99 (tI (w64 (s57.1 + 1))) rfl rfl (does_add rfl rfl) ?_
                          refine okL_step 60 (tI (w64 (s57.1 + 1))) rfl rfl (does_move rfl) ?_
                          refine okL_nil ?_
                          exact okX_again k (Nat.lt_succ_self k) ((w64 (s57.1 + 1)), s66) h (cc rfl (cc rfl (cc rfl (cc rfl (cc rfl (cc rfl (cc rfl (cc rfl (cc rfl (cc rfl (cc rfl (cc rfl (cc rfl (cc rfl (cc rfl (cc rfl cn)))))))))))))))) rfl
                      · replace h := cf hb59 h
                        refine okC_exit ?_
                        refine okX_then_exit ?_
                        refine okX_again_exit ?_
                        refine okX_block_hit ?_
                        exact okX_meet (I := _) s57.2 (smh h) (cc rfl (cc rfl (cc rfl (cc rfl (cc rfl (cc rfl (cc rfl (cc rfl (cc rfl (cc rfl (cc rfl cn))))))))))) rfl
                  · intro s52 hx
                    change OkX _ _ _ [(1, (pAt g1 0)), (3, (pAt g9 0)), (5, (Ty.val (.func (.func 97) #[] #[(.pointer (some ⟨g9, 0, none⟩))]))), (6, (tL 1 ls_SSI r26)), (7, (tI s33.1)), (42, (tL 5 Block.ty a0.Blocks)), (43, (tI ((a0.Blocks).length : Int))), (44, (tI s33.1)), (50, (tL 6 VInstr.ty y36.Instrs)), (51, (tI ((y36.Instrs).length : Int))), (52, (tI s44.1))] (Item.blk g49 48 [(tI y47.Instr.Op), (tI y47.Instr.A), (tI y47.Instr.B), (tI y47.Instr.C), (tI y47.Instr.N), (tL 1 lI y47.Args)] :: Item.blk g38 43 [(tL 6 VInstr.ty y36.Instrs), (tI y36.End), (tI y36.Reg), (tI y36.Target), (tI y36.Else)] :: Item.blk g9 136 [(Ty.own v7)] :: rowL v7 92 1 lO w34 :: rowsL w34 137 1 lU s52 :: Item.blk g1 27 [(tI a0.Params), (tI a0.Regs), (tL 5 Block.ty a0.Blocks)] :: L)
                    obtain rfl : s52 = z54 := hx.symm
                    replace h := hz55
                    refine okX_block_normal ?_
                    refine okX_next ?_
                    refine okC_region ?_
                    refine okL_step 100 (tI (w64 (s44.1 + 1))) rfl rfl (does_add rfl rfl) ?_
                    refine okL_step 52 (tI (w64 (s44.1 + 1))) rfl rfl (does_move rfl) ?_
                    refine okL_nil ?_
                    refine okX_items [Item.blk g49 48 [(tI y47.Instr.Op), (tI y47.Instr.A), (tI y47.Instr.B), (tI y47.Instr.C), (tI y47.Instr.N), (tL 1 lI y47.Args)]] (Item.blk g38 43 [(tL 6 VInstr.ty y36.Instrs), (tI y36.End), (tI y36.Reg), (tI y36.Target), (tI y36.Else)] :: Item.blk g9 136 [(Ty.own v7)] :: rowL v7 92 1 lO w34 :: rowsL w34 137 1 lU s52 :: Item.blk g1 27 [(tI a0.Params), (tI a0.Regs), (tL 5 Block.ty a0.Blocks)] :: L) (pm 0 rfl (pm 0 rfl (pm 0 rfl (pm 0 rfl (pm 0 rfl (pm 0 rfl (pr _))))))) ?_
                    exact okX_again k (Nat.lt_succ_self k) ((w64 (s44.1 + 1)), s52) h (cc rfl (cc rfl (cc rfl (cc rfl (cc rfl (cc rfl (cc rfl (cc rfl (cc rfl (cc rfl (cc rfl cn))))))))))) rfl
                · replace h := cf hb46 h
                  refine okC_exit ?_
                  refine okX_then_exit ?_
                  refine okX_again_exit ?_
                  refine okX_block_hit ?_
                  exact okX_meet (I := _) s44.2 (smh h) (cc rfl (cc rfl (cc rfl (cc rfl (cc rfl (cc rfl (cc rfl cn))))))) rfl
            · intro s39 hx
              change OkX _ _ _ [(1, (pAt g1 0)), (3, (pAt g9 0)), (5, (Ty.val (.func (.func 97) #[] #[(.pointer (some ⟨g9, 0, none⟩))]))), (6, (tL 1 ls_SSI r26)), (42, (tL 5 Block.ty a0.Blocks)), (43, (tI ((a0.Blocks).length : Int))), (44, (tI s33.1))] (Item.blk g38 43 [(tL 6 VInstr.ty y36.Instrs), (tI y36.End), (tI y36.Reg), (tI y36.Target), (tI y36.Else)] :: Item.blk g9 136 [(Ty.own v7)] :: rowL v7 92 1 lO w34 :: rowsL w34 137 1 lU s39 :: Item.blk g1 27 [(tI a0.Params), (tI a0.Regs), (tL 5 Block.ty a0.Blocks)] :: L)
              obtain rfl : s39 = z41 := hx.symm
              replace h := hz42
              refine okX_block_normal ?_
              refine okX_next ?_
              refine okC_region ?_
              refine okL_step 101 (tI (w64 (s33.1 + 1))) rfl rfl (does_add rfl rfl) ?_
              refine okL_step 44 (tI (w64 (s33.1 + 1))) rfl rfl (does_move rfl) ?_
              refine okL_nil ?_
              refine okX_items [Item.blk g38 43 [(tL 6 VInstr.ty y36.Instrs), (tI y36.End), (tI y36.Reg), (tI y36.Target), (tI y36.Else)]] (Item.blk g9 136 [(Ty.own v7)] :: rowL v7 92 1 lO w34 :: rowsL w34 137 1 lU s39 :: Item.blk g1 27 [(tI a0.Params), (tI a0.Regs), (tL 5 Block.ty a0.Blocks)] :: L) (pm 0 rfl (pm 0 rfl (pm 0 rfl (pm 0 rfl (pm 0 rfl (pr _)))))) ?_
              exact okX_again k (Nat.lt_succ_self k) (((w64 (s33.1 + 1)), s39), w34) h (cc rfl (cc rfl (cc rfl (cc rfl (cc rfl (cc rfl (cc rfl cn))))))) rfl
          · replace h := cf hb35 h
            refine okC_exit ?_
            refine okX_then_exit ?_
            refine okX_again_exit ?_
            refine okX_block_hit ?_
            exact okX_meet (I := _) (s33.2, w34) (smh h) (cc rfl (cc rfl cn)) rfl
      · intro x hx
        obtain ⟨s28, w29⟩ := x
        change OkX _ _ _ [(1, (pAt g1 0)), (3, (pAt g9 0))] (Item.blk g9 136 [(Ty.own v7)] :: rowL v7 92 1 lO w29 :: rowsL w29 137 1 lU s28 :: Item.blk g1 27 [(tI a0.Params), (tI a0.Regs), (tL 5 Block.ty a0.Blocks)] :: L)
        obtain rfl : s28 = z30 := hx.symm
        replace h := hz31
        refine okX_next ?_
        refine okC_seq ?_
        refine okC_region ?_
        refine okL_step 102 (pAt g1 1) rfl rfl (does_fieldAddrP 1 Tryd.underlying27 rfl Tryd.sizeOf3 rfl rfl) ?_
        refine okL_step 103 (tI a0.Regs) rfl rfl (does_loadB1 Tryd.isAgg3 rfl 3 rfl rfl) ?_
        obtain ⟨l88, hm89, h⟩ := bs h
        refine okL_stepO 104 rfl rfl (doesO_makeM lI 3 1 el22 l88 hm89 rfl rfl (fun v90 us91 => ?_))
        refine okL_step 15 (Ty.own v90) rfl rfl (does_assign rfl) ?_
        refine okL_nil ?_
        refine okX_next ?_
        refine okC_seq ?_
        refine okC_seq ?_
        refine okC_region ?_
        refine okL_step 105 (Ty.own v7) rfl rfl (does_loadB1 Tryd.isAgg136 rfl 2 rfl rfl) ?_
        refine okL_rowsLen 4 rfl (fun hl92 => ?_)
        refine okL_step 106 (tI ((s28).length : Int)) rfl rfl (does_weak (does_lenR (f := lO) (l := w29) rfl Tryd.underlying136 3 rfl rfl) (sub_eq (congrArg (fun n : Nat => tI (n : Int)) hl92))) ?_
        refine okL_step 107 (tI 0) rfl rfl (does_move rfl) ?_
        refine okL_nil ?_
        refine okX_next ?_
        obtain ⟨z95, h97, hz96⟩ := bs h
        refine okC_meetE (X := (((List (List Int)) × (List (List Int))) × ((List Value) × (List Value)))) (fun x => z95 = x.1) (fun x : (((List (List Int)) × (List (List Int))) × ((List Value) × (List Value))) => [(15, (Ty.own v90))]) (fun x : (((List (List Int)) × (List (List Int))) × ((List Value) × (List Value))) => rowL v90 31 1 lO x.2.1 :: rowsL x.2.1 3 1 lI x.1.1 :: Item.blk g9 136 [(Ty.own v7)] :: rowL v7 92 1 lO x.2.2 :: rowsL x.2.2 137 1 lU x.1.2 :: Item.blk g1 27 [(tI a0.Params), (tI a0.Regs), (tL 5 Block.ty a0.Blocks)] :: L) ?_ ?_
        · refine okC_block ?_
          refine okC_loop (X := ((Int × (List (List Int)) × (List (List Int))) × ((List Value) × (List Value)))) (fun k x => regalloc_Interference_l6 K a0 s28 k x.1 = some z95) (fun x : ((Int × (List (List Int)) × (List (List Int))) × ((List Value) × (List Value))) => [(1, (pAt g1 0)), (3, (pAt g9 0)), (15, (Ty.own v90)), (106, (tI ((s28).length : Int))), (107, (tI x.1.1))]) (fun x : ((Int × (List (List Int)) × (List (List Int))) × ((List Value) × (List Value))) => rowL v90 31 1 lO x.2.1 :: rowsL x.2.1 3 1 lI x.1.2.1 :: Item.blk g9 136 [(Ty.own v7)] :: rowL v7 92 1 lO x.2.2 :: rowsL x.2.2 137 1 lU x.1.2.2 :: Item.blk g1 27 [(tI a0.Params), (tI a0.Regs), (tL 5 Block.ty a0.Blocks)] :: L) K ((0, l88, s28), (us91, w29)) h97 (cc rfl (cc rfl (cc rfl (cc rfl (cc rfl cn))))) rfl (fun k x hI => ?_)
          obtain ⟨s98, w99⟩ := x
          change OkC _ _ _ [(1, (pAt g1 0)), (3, (pAt g9 0)), (15, (Ty.own v90)), (106, (tI ((s28).length : Int))), (107, (tI s98.1))] (rowL v90 31 1 lO w99.1 :: rowsL w99.1 3 1 lI s98.2.1 :: Item.blk g9 136 [(Ty.own v7)] :: rowL v7 92 1 lO w99.2 :: rowsL w99.2 137 1 lU s98.2.2 :: Item.blk g1 27 [(tI a0.Params), (tI a0.Regs), (tL 5 Block.ty a0.Blocks)] :: L)
          cases k with
          | zero => exact (nz hI).elim
          | succ k =>
            have h : regalloc_Interference_l6 K a0 s28 (k + 1) s98 = some z95 := hI
            rw [regalloc_Interference_l6.eq_2] at h
            refine okC_seq ?_
            refine okC_region ?_
            refine okL_step 108 (tB (decide (s98.1 < ((s28).length : Int)))) rfl rfl (does_lss rfl rfl) ?_
            refine okL_nil ?_
            refine okX_next ?_
            refine okC_seq ?_
            refine okC_cond (b := (decide (s98.1 < ((s28).length : Int)))) rfl (fun hb100 => ?_) (fun hb100 => ?_)
            · replace h := ct hb100 h
              refine okC_skip ?_
              refine okX_next ?_
              refine okC_seq ?_
              refine okC_block ?_
              refine okC_seq ?_
              refine okC_region ?_
              refine okL_step 109 (tI s98.1) rfl rfl (does_move rfl) ?_
              refine okL_step 16 (tI s98.1) rfl rfl (does_assign rfl) ?_
              refine okL_nil ?_
              refine okX_next ?_
              refine okC_seq ?_
              refine okC_region ?_
              refine okL_step 17 (tI 0) rfl rfl (does_assign rfl) ?_
              refine okL_nil ?_
              refine okX_next ?_
              obtain ⟨z103, h105, hz104⟩ := bs h
              refine okC_meetE (X := (((List (List Int)) × (List (List Int))) × (List Value))) (fun x => z103 = x.1) (fun x : (((List (List Int)) × (List (List Int))) × (List Value)) => [(1, (pAt g1 0)), (3, (pAt g9 0)), (15, (Ty.own v90)), (106, (tI ((s28).length : Int))), (107, (tI s98.1))]) (fun x : (((List (List Int)) × (List (List Int))) × (List Value)) => rowL v90 31 1 lO x.2 :: rowsL x.2 3 1 lI x.1.1 :: Item.blk g9 136 [(Ty.own v7)] :: rowL v7 92 1 lO w99.2 :: rowsL w99.2 137 1 lU x.1.2 :: Item.blk g1 27 [(tI a0.Params), (tI a0.Regs), (tL 5 Block.ty a0.Blocks)] :: L) ?_ ?_
              · refine okC_block ?_
                refine okC_loop (X := ((Int × (List (List Int)) × (List (List Int))) × (List Value))) (fun k x => regalloc_Interference_l7 K a0 s98 k x.1 = some z103) (fun x : ((Int × (List (List Int)) × (List (List Int))) × (List Value)) => [(1, (pAt g1 0)), (3, (pAt g9 0)), (15, (Ty.own v90)), (16, (tI s98.1)), (17, (tI x.1.1)), (106, (tI ((s28).length : Int))), (107, (tI s98.1))]) (fun x : ((Int × (List (List Int)) × (List (List Int))) × (List Value)) => rowL v90 31 1 lO x.2 :: rowsL x.2 3 1 lI x.1.2.1 :: Item.blk g9 136 [(Ty.own v7)] :: rowL v7 92 1 lO w99.2 :: rowsL w99.2 137 1 lU x.1.2.2 :: Item.blk g1 27 [(tI a0.Params), (tI a0.Regs), (tL 5 Block.ty a0.Blocks)] :: L) K ((0, s98.2.1, s98.2.2), w99.1) h105 (cc rfl (cc rfl (cc rfl (cc rfl (cc rfl (cc rfl (cc rfl cn))))))) rfl (fun k x hI => ?_)
                obtain ⟨s106, w107⟩ := x
                change OkC _ _ _ [(1, (pAt g1 0)), (3, (pAt g9 0)), (15, (Ty.own v90)), (16, (tI s98.1)), (17, (tI s106.1)), (106, (tI ((s28).length : Int))), (107, (tI s98.1))] (rowL v90 31 1 lO w107 :: rowsL w107 3 1 lI s106.2.1 :: Item.blk g9 136 [(Ty.own v7)] :: rowL v7 92 1 lO w99.2 :: rowsL w99.2 137 1 lU s106.2.2 :: Item.blk g1 27 [(tI a0.Params), (tI a0.Regs), (tL 5 Block.ty a0.Blocks)] :: L)
                cases k with
                | zero => exact (nz hI).elim
                | succ k =>
                  have h : regalloc_Interference_l7 K a0 s98 (k + 1) s106 = some z103 := hI
                  rw [regalloc_Interference_l7.eq_2] at h
                  refine okC_seq ?_
                  refine okC_seq ?_
                  refine okC_region ?_
                  refine okL_step 110 (tI s106.1) rfl rfl (does_move rfl) ?_
                  refine okL_step 111 (pAt g1 1) rfl rfl (does_fieldAddrP 1 Tryd.underlying27 rfl Tryd.sizeOf3 rfl rfl) ?_
                  refine okL_step 112 (tI a0.Regs) rfl rfl (does_loadB1 Tryd.isAgg3 rfl 5 rfl rfl) ?_
                  refine okL_step 113 (tB (decide (s106.1 < a0.Regs))) rfl rfl (does_lss rfl rfl) ?_
                  refine okL_nil ?_
                  refine okX_next ?_
                  refine okC_cond (b := (decide (s106.1 < a0.Regs))) rfl (fun hb108 => ?_) (fun hb108 => ?_)
                  · replace h := ct hb108 h
                    refine okC_skip ?_
                    refine okX_next ?_
                    obtain ⟨z111, h113, hz112⟩ := bs h
                    refine okC_meet (X := (((List (List Int)) × (List (List Int))) × (List Value))) (fun x => z111 = x.1) (fun x : (((List (List Int)) × (List (List Int))) × (List Value)) => [(1, (pAt g1 0)), (3, (pAt g9 0)), (15, (Ty.own v90)), (16, (tI s98.1)), (17, (tI s106.1)), (106, (tI ((s28).length : Int))), (107, (tI s98.1))]) (fun x : (((List (List Int)) × (List (List Int))) × (List Value)) => rowL v90 31 1 lO x.2 :: rowsL x.2 3 1 lI x.1.1 :: Item.blk g9 136 [(Ty.own v7)] :: rowL v7 92 1 lO w99.2 :: rowsL w99.2 137 1 lU x.1.2 :: Item.blk g1 27 [(tI a0.Params), (tI a0.Regs), (tL 5 Block.ty a0.Blocks)] :: L) ?_ ?_
                    · refine okC_block ?_
                      refine okC_seq ?_
                      refine okC_region ?_
                      refine okL_step 116 (Ty.own v7) rfl rfl (does_loadB1 Tryd.isAgg136 rfl 2 rfl rfl) ?_
                      refine okL_step 117 (tI s98.1) rfl rfl (does_move rfl) ?_
                      obtain ⟨y114, hi115, h113⟩ := bs h113
                      refine okL_open (m := s98.1) hi115 (pm 4 rfl (pr _)) (fun u116 hu117 => ?_)
                      refine okL_step 118 (Ty.rptr v7 (s98.1.toNat * 1)) rfl rfl (does_indexR (f := lO) (l := w99.2) (m := s98.1) el136 5 u116 hu117 rfl rfl rfl) ?_
                      refine okL_step 119 (Ty.own u116) rfl rfl (does_loadR1 5 u116 0 Tryd.isAgg92 hu117 rfl rfl rfl) ?_
                      refine okL_step 120 (tI s106.1) rfl rfl (does_move rfl) ?_
                      refine okL_step 121 (tI (w64 (Int.tdiv s106.1 64))) rfl rfl (does_quo (by decide) rfl rfl) ?_
                      obtain ⟨y118, hi119, h113⟩ := bs h113
                      refine okL_step 122 (Ty.rptr u116 ((w64 (Int.tdiv s106.1 64)).toNat * 1)) rfl rfl (does_indexR (f := lU) (l := y114) (m := (w64 (Int.tdiv s106.1 64))) el92 0 y118 hi119 rfl rfl rfl) ?_
                      refine okL_step 123 (tK .u64 y118) rfl rfl (does_loadR1 (sz := 1) (f := lU) (l := y114) 0 y118 0 Tryd.isAgg137 hi119 rfl rfl rfl) ?_
                      refine okL_step 124 (tI s106.1) rfl rfl (does_move rfl) ?_
                      refine okL_step 125 (tI (Int.tmod s106.1 64)) rfl rfl (does_rem (by decide) rfl rfl) ?_
                      refine okL_step 126 (tK .u64 (u64 (Int.tmod s106.1 64))) rfl rfl (does_convert Tryd.underlying3 Tryd.underlying138 rfl) ?_
                      refine okL_step 127 (tK .u64 (bShr .u64 y118 (u64 (Int.tmod s106.1 64)))) rfl rfl (does_shr (wrap_u64_nonneg _) rfl rfl) ?_
                      refine okL_step 128 (tK .u64 (bAnd .u64 (bShr .u64 y118 (u64 (Int.tmod s106.1 64))) 1)) rfl rfl (does_and rfl rfl) ?_
                      refine okL_step 129 (tB ((bAnd .u64 (bShr .u64 y118 (u64 (Int.tmod s106.1 64))) 1) == 1)) rfl rfl (does_eql rfl rfl) ?_
                      refine okL_close (m := s98.1) hi115 hu117 (pm 0 rfl (pm 0 rfl (pr _))) ?_
                      refine okL_nil ?_
                      refine okX_next ?_
                      refine okC_cond (b := ((bAnd .u64 (bShr .u64 y118 (u64 (Int.tmod s106.1 64))) 1) == 1)) rfl (fun hb120 => ?_) (fun hb120 => ?_)
                      · replace h113 := ct hb120 h113
                        refine okC_region ?_
                        refine okL_step 130 (Ty.own v90) rfl rfl (does_move rfl) ?_
                        refine okL_step 131 (tI s98.1) rfl rfl (does_move rfl) ?_
                        refine okL_step 132 (Ty.own v90) rfl rfl (does_move rfl) ?_
                        refine okL_step 133 (tI s98.1) rfl rfl (does_move rfl) ?_
                        obtain ⟨y121, hi122, h113⟩ := bs h113
                        refine okL_open (m := s98.1) hi122 (pm 2 rfl (pr _)) (fun u123 hu124 => ?_)
                        refine okL_step 134 (Ty.rptr v90 (s98.1.toNat * 1)) rfl rfl (does_indexR (f := lO) (l := w107) (m := s98.1) el22 3 u123 hu124 rfl rfl rfl) ?_
                        refine okL_step 135 (Ty.own u123) rfl rfl (does_loadR1 3 u123 0 Tryd.isAgg31 hu124 rfl rfl rfl) ?_
                        refine okL_step 136 (tI s106.1) rfl rfl (does_move rfl) ?_
                        refine okL_step 137 (tL 1 lI ([s106.1] : List Int)) rfl rfl (does_buildSlice (f := lI) ([s106.1] : List Int) [(tI s106.1)] el31 rfl rfl rfl (fc [(tI s106.1)] 0 rfl (part_one (one_i _)) rfl rfl (fn_ rfl)) rfl (fun _ => rfl)) ?_
                        obtain ⟨l125, ha126, h113⟩ := bs h113
                        refine okL_stepO 138 rfl rfl (doesO_append (f := lI) (l := y121) (m := ([s106.1] : List Int)) el31 0 l125 (fun v127 => rowL v127 3 1 lI l125 :: rowsL (w107.eraseIdx s98.1.toNat) 3 1 lI (s106.2.1.eraseIdx s98.1.toNat) :: rowsL w99.2 137 1 lU (s106.2.2.set s98.1.toNat y114) :: rowL v90 31 1 lO w107 :: Item.blk g9 136 [(Ty.own v7)] :: rowL v7 92 1 lO w99.2 :: Item.blk g1 27 [(tI a0.Params), (tI a0.Regs), (tL 5 Block.ty a0.Blocks)] :: L) ha126 rfl rfl rfl (fun _ => rfl) (fun v127 => ?_))
                        refine okL_step 139 (Ty.rptr v90 (s98.1.toNat * 1)) rfl rfl (does_indexR (f := lO) (l := w107) (m := s98.1) el22 3 u123 hu124 rfl rfl rfl) ?_
                        refine okL_stepU rfl (doesO_storeR (f := lO) (l := w107) (sz := 1) (ps := [(Ty.own v127)]) (y0 := u123) (y1 := v127) (m := s98.1) 3 0 (w107.set s98.1.toNat v127) (rowL v127 3 1 lI l125 :: rowsL (w107.eraseIdx s98.1.toNat) 3 1 lI (s106.2.1.eraseIdx s98.1.toNat) :: rowsL w99.2 137 1 lU (s106.2.2.set s98.1.toNat y114) :: rowL v90 31 1 lO (w107.set s98.1.toNat v127) :: Item.blk g9 136 [(Ty.own v7)] :: rowL v7 92 1 lO w99.2 :: Item.blk g1 27 [(tI a0.Params), (tI a0.Regs), (tL 5 Block.ty a0.Blocks)] :: L) rfl rfl (part_one (one_own _)) Tryd.sizeOf31 rfl hu124 rfl rfl rfl rfl rfl ?_)
                        refine okL_close2 (m := s98.1) hi122 hu124 (pm 0 rfl (pm 0 rfl (pr _))) ?_
                        refine okL_nil ?_
                        refine okX_block_normal ?_
                        refine okX_items [] (rowL v90 31 1 lO (w107.set s98.1.toNat v127) :: rowsL (w107.set s98.1.toNat v127) 3 1 lI (s106.2.1.set s98.1.toNat l125) :: Item.blk g9 136 [(Ty.own v7)] :: rowL v7 92 1 lO w99.2 :: rowsL w99.2 137 1 lU (s106.2.2.set s98.1.toNat y114) :: Item.blk g1 27 [(tI a0.Params), (tI a0.Regs), (tL 5 Block.ty a0.Blocks)] :: L) (pm 2 rfl (pm 0 rfl (pm 1 rfl (pm 1 rfl (pm 0 rfl (pm 0 rfl (pr _))))))) ?_
                        exact okX_meet (I := _) (((s106.2.1.set s98.1.toNat l125), (s106.2.2.set s98.1.toNat y114)), (w107.set s98.1.toNat v127)) (smh h113) (cc rfl (cc rfl (cc rfl (cc rfl (cc rfl (cc rfl (cc rfl cn))))))) rfl
                      · replace h113 := cf hb120 h113
                        refine okC_skip ?_
                        refine okX_block_normal ?_
                        refine okX_items [] (rowL v90 31 1 lO w107 :: rowsL w107 3 1 lI s106.2.1 :: Item.blk g9 136 [(Ty.own v7)] :: rowL v7 92 1 lO w99.2 :: rowsL w99.2 137 1 lU (s106.2.2.set s98.1.toNat y114) :: Item.blk g1 27 [(tI a0.Params), (tI a0.Regs), (tL 5 Block.ty a0.Blocks)] :: L) (pm 1 rfl (pm 1 rfl (pm 1 rfl (pm 1 rfl (pm 0 rfl (pm 0 rfl (pr _))))))) ?_
                        exact okX_meet (I := _) ((s106.2.1, (s106.2.2.set s98.1.toNat y114)), w107) (smh h113) (cc rfl (cc rfl (cc rfl (cc rfl (cc rfl (cc rfl (cc rfl cn))))))) rfl
                    · intro x hx
                      obtain ⟨s109, w110⟩ := x
                      change OkC _ _ _ [(1, (pAt g1 0)), (3, (pAt g9 0)), (15, (Ty.own v90)), (16, (tI s98.1)), (17, (tI s106.1)), (106, (tI ((s28).length : Int))), (107, (tI s98.1))] (rowL v90 31 1 lO w110 :: rowsL w110 3 1 lI s109.1 :: Item.blk g9 136 [(Ty.own v7)] :: rowL v7 92 1 lO w99.2 :: rowsL w99.2 137 1 lU s109.2 :: Item.blk g1 27 [(tI a0.Params), (tI a0.Regs), (tL 5 Block.ty a0.Blocks)] :: L)
                      obtain rfl : s109 = z111 := hx.symm
                      replace h := hz112
                      refine okC_region ?_
                      refine okL_step 114 (tI s106.1) rfl rfl (does_move rfl) ?_
                      refine okL_step 115 (tI (w64 (s106.1 + 1))) rfl rfl (does_add rfl rfl) ?_
                      refine okL_step 17 (tI (w64 (s106.1 + 1))) rfl rfl (does_assign rfl) ?_
                      refine okL_nil ?_
                      exact okX_again k (Nat.lt_succ_self k) (((w64 (s106.1 + 1)), s109.1, s109.2), w110) h (cc rfl (cc rfl (cc rfl (cc rfl (cc rfl (cc rfl (cc rfl cn))))))) rfl
                  · replace h := cf hb108 h
                    refine okC_exit ?_
                    refine okX_then_exit ?_
                    refine okX_again_exit ?_
                    refine okX_block_hit ?_
                    exact okX_meet (I := _) ((s106.2.1, s106.2.2), w107) (smh h) (cc rfl (cc rfl (cc rfl (cc rfl (cc rfl cn))))) rfl
              · intro x hx
                obtain ⟨s101, w102⟩ := x
                change OkX _ _ _ [(1, (pAt g1 0)), (3, (pAt g9 0)), (15, (Ty.own v90)), (106, (tI ((s28).length : Int))), (107, (tI s98.1))] (rowL v90 31 1 lO w102 :: rowsL w102 3 1 lI s101.1 :: Item.blk g9 136 [(Ty.own v7)] :: rowL v7 92 1 lO w99.2 :: rowsL w99.2 137 1 lU s101.2 :: Item.blk g1 27 [(tI a0.Params), (tI a0.Regs), (tL 5 Block.ty a0.Blocks)] :: L)
                obtain rfl : s101 = z103 := hx.symm
                replace h := hz104
                refine okX_block_normal ?_
                refine okX_next ?_
                refine okC_region ?_
                refine okL_step 140 (tI (w64 (s98.1 + 1))) rfl rfl (does_add rfl rfl) ?_
                refine okL_step 107 (tI (w64 (s98.1 + 1))) rfl rfl (does_move rfl) ?_
                refine okL_nil ?_
                exact okX_again k (Nat.lt_succ_self k) (((w64 (s98.1 + 1)), s101.1, s101.2), (w102, w99.2)) h (cc rfl (cc rfl (cc rfl (cc rfl (cc rfl cn))))) rfl
            · replace h := cf hb100 h
              refine okC_exit ?_
              refine okX_then_exit ?_
              refine okX_again_exit ?_
              refine okX_block_hit ?_
              exact okX_meet (I := _) ((s98.2.1, s98.2.2), (w99.1, w99.2)) (smh h) (cc rfl cn) rfl
        · intro x hx
          obtain ⟨s93, w94⟩ := x
          change OkX _ _ _ [(15, (Ty.own v90))] (rowL v90 31 1 lO w94.1 :: rowsL w94.1 3 1 lI s93.1 :: Item.blk g9 136 [(Ty.own v7)] :: rowL v7 92 1 lO w94.2 :: rowsL w94.2 137 1 lU s93.2 :: Item.blk g1 27 [(tI a0.Params), (tI a0.Regs), (tL 5 Block.ty a0.Blocks)] :: L)
          obtain rfl : s93 = z95 := hx.symm
          replace h := hz96
          refine okX_next ?_
          refine okC_seq ?_
          refine okC_region ?_
          refine okL_step 141 (Ty.own v90) rfl rfl (does_move rfl) ?_
          refine okL_step 2 (Ty.own v90) rfl rfl (does_assign rfl) ?_
          refine okL_nil ?_
          refine okX_next ?_
          refine okC_ret ?_
          obtain rfl := (smh h).symm
          refine okX_publishM [15, 141, 2] (pm 0 rfl (pm 0 rfl (pr _))) (ac rfl (ac rfl (ac rfl an))) ?_
          refine okX_items [Item.blk g9 136 [(Ty.own v7)], rowL v7 92 1 lO w94.2, rowsL w94.2 137 1 lU s93.2, Item.blk g1 27 [(tI a0.Params), (tI a0.Regs), (tL 5 Block.ty a0.Blocks)]] (L) (pm 0 rfl (pm 0 rfl (pm 0 rfl (pm 0 rfl (pr _))))) ?_
          exact okX_ret1 () Tryd.results53 rfl rfl

def alloccheck_points_at (K : Nat) (a0 : AlloccheckPoints) (a1 : Int) (a2 : Int) : Option ((List Int) × (List (Int × (List (List Int))))) :=
  (Option.bind (cnd (!(mget a0.l a1).isSome) (Option.bind (liveness_Points K a0.c a1) (fun r8 => (some (r8, (mput a0.l a1 r8))))) (some (((mget a0.l a1).getD []), a0.l))) (fun s2 => (Option.bind (idx s2.1 a2) (fun y10 => (some (y10, s2.2))))))

theorem c_alloccheck_points_at (K : Nat) (a0 : AlloccheckPoints) (a1 : Int) (a2 : Int) (g0 : Nat) (r : (List Int) × (List (Int × (List (List Int))))) (h : alloccheck_points_at K a0 a1 a2 = some r) : CallOk Tryd.prog glob 113 [(Ty.agg [(tI a0.c.Params), (tI a0.c.Regs), (tL 5 Block.ty a0.c.Blocks), (Ty.val (.map (some g0)))]), (tI a1), (tI a2)] [mapL g0 (tL 1 lIs) a0.l] Unit (fun _ : Unit => ((tL 1 lI r.1), [mapL g0 (tL 1 lIs) r.2])) := by
  refine call_of_code Tryd.func113 rfl Tryd.ntmps113 rfl (fun L w => ?_)
  change OkC _ _ _ [(0, (Ty.agg [(tI a0.c.Params), (tI a0.c.Regs), (tL 5 Block.ty a0.c.Blocks), (Ty.val (.map (some g0)))])), (1, (tI a1)), (2, (tI a2))] (mapL g0 (tL 1 lIs) a0.l :: L)
  unfold alloccheck_points_at at h
  refine okC_seq ?_
  refine okC_region ?_
  refine okL_stepO 3 rfl rfl (doesO_box [(tI a0.c.Params), (tI a0.c.Regs), (tL 5 Block.ty a0.c.Blocks), (Ty.val (.map (some g0)))] rfl (part_agg _) (fun g1 => ?_))
  refine okL_step 6 (Ty.val (.slice none 0 0)) rfl rfl (does_assign rfl) ?_
  refine okL_nil ?_
  refine okX_next ?_
  refine okC_seq ?_
  refine okC_region ?_
  refine okL_step 10 (pAt g1 3) rfl rfl (does_fieldAddrP 3 Tryd.underlying127 rfl Tryd.sizeOf125 rfl rfl) ?_
  refine okL_step 11 (Ty.val (.map (some g0))) rfl rfl (does_loadB1 Tryd.isAgg125 rfl 0 rfl rfl) ?_
  refine okL_step 12 (tI a1) rfl rfl (does_move rfl) ?_
  refine okL_step 13 (Ty.tup [(tL 1 lIs ((mget a0.l a1).getD [])), (tB (mget a0.l a1).isSome)]) rfl rfl (does_lookup ((mget a0.l a1).getD []) (mget a0.l a1).isSome Tryd.underlying125 Tryd.underlying3 Tryd.zeroValue22 1 rfl rfl rfl rfl rfl) ?_
  refine okL_step 9 (Ty.tup [(tL 1 lIs ((mget a0.l a1).getD [])), (tB (mget a0.l a1).isSome)]) rfl rfl (does_move rfl) ?_
  refine okL_step 14 (tL 1 lIs ((mget a0.l a1).getD [])) rfl rfl (does_extract rfl rfl) ?_
  refine okL_step 15 (tB (mget a0.l a1).isSome) rfl rfl (does_extract rfl rfl) ?_
  refine okL_step 7 (tL 1 lIs ((mget a0.l a1).getD [])) rfl rfl (does_assign rfl) ?_
  refine okL_step 8 (tB (mget a0.l a1).isSome) rfl rfl (does_assign rfl) ?_
  refine okL_nil ?_
  refine okX_next ?_
  obtain ⟨z4, h6, hz5⟩ := bs h
  refine okC_meet (X := ((List (List Int)) × (List (Int × (List (List Int)))))) (fun x => z4 = x) (fun x : ((List (List Int)) × (List (Int × (List (List Int))))) => [(2, (tI a2)), (7, (tL 1 lIs x.1))]) (fun x : ((List (List Int)) × (List (Int × (List (List Int))))) => Item.blk g1 127 [(tI a0.c.Params), (tI a0.c.Regs), (tL 5 Block.ty a0.c.Blocks), (Ty.val (.map (some g0)))] :: mapL g0 (tL 1 lIs) x.2 :: L) ?_ ?_
  · refine okC_seq ?_
    refine okC_region ?_
    refine okL_step 16 (tB (mget a0.l a1).isSome) rfl rfl (does_move rfl) ?_
    refine okL_step 17 (tB (!(mget a0.l a1).isSome)) rfl rfl (does_not rfl) ?_
    refine okL_nil ?_
    refine okX_next ?_
    refine okC_cond (b := (!(mget a0.l a1).isSome)) rfl (fun hb7 => ?_) (fun hb7 => ?_)
    · replace h6 := ct hb7 h6
      refine okC_seq ?_
      refine okC_region ?_
      refine okL_step 18 (pAt g1 0) rfl rfl (does_fieldAddrP 0 Tryd.underlying127 rfl Tryd.sizeOf27 rfl rfl) ?_
      refine okL_step 19 (Ty.agg [(tI a0.c.Params), (tI a0.c.Regs), (tL 5 Block.ty a0.c.Blocks)]) rfl rfl (does_loadBA [(tI a0.c.Params), (tI a0.c.Regs), (tL 5 Block.ty a0.c.Blocks)] Tryd.isAgg27 Tryd.sizeOf27 rfl 0 rfl rfl rfl) ?_
      refine okL_step 20 (tI a1) rfl rfl (does_move rfl) ?_
      obtain ⟨r8, hc9, h6⟩ := bs h6
      refine okL_step 21 (tL 1 lIs r8) rfl rfl (does_call0 (c_liveness_Points K a0.c a1 r8 hc9) rfl Tryd.call24 rfl) ?_
      refine okL_step 7 (tL 1 lIs r8) rfl rfl (does_assign rfl) ?_
      refine okL_nil ?_
      refine okX_next ?_
      refine okC_region ?_
      refine okL_step 22 (pAt g1 3) rfl rfl (does_fieldAddrP 3 Tryd.underlying127 rfl Tryd.sizeOf125 rfl rfl) ?_
      refine okL_step 23 (Ty.val (.map (some g0))) rfl rfl (does_loadB1 Tryd.isAgg125 rfl 0 rfl rfl) ?_
      refine okL_step 24 (tI a1) rfl rfl (does_move rfl) ?_
      refine okL_step 25 (tL 1 lIs r8) rfl rfl (does_move rfl) ?_
      refine okL_stepU rfl (doesO_mapUpdate (l := a0.l) (y := r8) 1 (Item.blk g1 127 [(tI a0.c.Params), (tI a0.c.Regs), (tL 5 Block.ty a0.c.Blocks), (Ty.val (.map (some g0)))] :: mapL g0 (tL 1 lIs) (mput a0.l a1 r8) :: L) Tryd.underlying125 Tryd.underlying3 rfl rfl rfl (sub_refl _) rfl rfl ?_)
      refine okL_nil ?_
      exact okX_meet (I := _) (r8, (mput a0.l a1 r8)) (smh h6) (cc rfl (cc rfl cn)) rfl
    · replace h6 := cf hb7 h6
      refine okC_skip ?_
      exact okX_meet (I := _) (((mget a0.l a1).getD []), a0.l) (smh h6) (cc rfl (cc rfl cn)) rfl
  · intro s2 hx
    change OkC _ _ _ [(2, (tI a2)), (7, (tL 1 lIs s2.1))] (Item.blk g1 127 [(tI a0.c.Params), (tI a0.c.Regs), (tL 5 Block.ty a0.c.Blocks), (Ty.val (.map (some g0)))] :: mapL g0 (tL 1 lIs) s2.2 :: L)
    obtain rfl : s2 = z4 := hx.symm
    replace h := hz5
    refine okC_seq ?_
    refine okC_region ?_
    refine okL_step 26 (tL 1 lIs s2.1) rfl rfl (does_move rfl) ?_
    refine okL_step 27 (tI a2) rfl rfl (does_move rfl) ?_
    obtain ⟨y10, hi11, h⟩ := bs h
    refine okL_step 28 (Ty.ptr [(tL 1 lI y10)]) rfl rfl (does_index (sz := 1) (f := lIs) (l := s2.1) (n := a2) y10 Tryd.underlying22 Tryd.sizeOf31 hi11 rfl rfl) ?_
    refine okL_step 29 (tL 1 lI y10) rfl rfl (does_load1 Tryd.isAgg31 rfl) ?_
    refine okL_step 6 (tL 1 lI y10) rfl rfl (does_assign rfl) ?_
    refine okL_nil ?_
    refine okX_next ?_
    refine okC_ret ?_
    obtain rfl := (smh h).symm
    refine okX_items [Item.blk g1 127 [(tI a0.c.Params), (tI a0.c.Regs), (tL 5 Block.ty a0.c.Blocks), (Ty.val (.map (some g0)))]] (mapL g0 (tL 1 lIs) s2.2 :: L) (pm 0 rfl (pm 0 rfl (pr _))) ?_
    exact okX_ret1 () Tryd.results113 rfl rfl

def alloccheck_acrossCall (K : Nat) (a0 : AlloccheckPoints) (a1 : Spill) : Option (Bool × (List (Int × (List (List Int))))) :=
  (Option.bind (cnd (decide (a1.Block < 0)) (some true) (cnd (decide (a1.Block ≥ ((a0.c.Blocks).length : Int))) (some true) (cnd (decide (a1.Index < 0)) (some true) (Option.bind (idx a0.c.Blocks a1.Block) (fun y12 => (some ((decide (a1.Index ≥ ((y12.Instrs).length : Int))) || (decide (((a1.Others).length : Int) > 0))))))))) (fun s4 => (cnd s4 (some (false, a0.l)) (Option.bind (idx a0.c.Blocks a1.Block) (fun y17 => (Option.bind (idx y17.Instrs a1.Index) (fun y19 => (cnd (y19.Instr.Op != 6) (some (false, a0.l)) (Option.bind (Option.bind (alloccheck_contains K y19.Args a1.Reg) (fun r28 => (cnd r28 (some (true, a0.l)) (cnd (y19.Instr.A != a1.Reg) (Option.bind (alloccheck_points_at K a0 a1.Block (w64 (a1.Index + 1))) (fun r32 => (Option.bind (alloccheck_contains K r32.1 a1.Reg) (fun r34 => (some (r34, r32.2)))))) (some (false, a0.l)))))) (fun s23 => (some (s23.1, s23.2))))))))))))

theorem c_alloccheck_acrossCall (K : Nat) (a0 : AlloccheckPoints) (a1 : Spill) (g0 : Nat) (r : Bool × (List (Int × (List (List Int))))) (h : alloccheck_acrossCall K a0 a1 = some r) : CallOk Tryd.prog glob 88 [(Ty.agg [(tI a0.c.Params), (tI a0.c.Regs), (tL 5 Block.ty a0.c.Blocks), (Ty.val (.map (some g0)))]), (Ty.agg [(tI a1.Reg), (tI a1.Reason), (tI a1.Block), (tI a1.Index), (tL 1 lI a1.Others)])] [mapL g0 (tL 1 lIs) a0.l] Unit (fun _ : Unit => ((tB r.1), [mapL g0 (tL 1 lIs) r.2])) := by
  refine call_of_code Tryd.func88 rfl Tryd.ntmps88 rfl (fun L w => ?_)
  change OkC _ _ _ [(0, (Ty.agg [(tI a0.c.Params), (tI a0.c.Regs), (tL 5 Block.ty a0.c.Blocks), (Ty.val (.map (some g0)))])), (1, (Ty.agg [(tI a1.Reg), (tI a1.Reason), (tI a1.Block), (tI a1.Index), (tL 1 lI a1.Others)]))] (mapL g0 (tL 1 lIs) a0.l :: L)
  unfold alloccheck_acrossCall at h
  refine okC_seq ?_
  refine okC_region ?_
  refine okL_stepO 2 rfl rfl (doesO_box [(tI a0.c.Params), (tI a0.c.Regs), (tL 5 Block.ty a0.c.Blocks), (Ty.val (.map (some g0)))] rfl (part_agg _) (fun g1 => ?_))
  refine okL_stepO 3 rfl rfl (doesO_box [(tI a1.Reg), (tI a1.Reason), (tI a1.Block), (tI a1.Index), (tL 1 lI a1.Others)] rfl (part_agg _) (fun g2 => ?_))
  refine okL_step 4 (tB false) rfl rfl (does_assign rfl) ?_
  refine okL_nil ?_
  refine okX_next ?_
  refine okC_seq ?_
  refine okC_region ?_
  refine okL_step 7 (pAt g1 0) rfl rfl (does_fieldAddrP 0 Tryd.underlying127 rfl Tryd.sizeOf27 rfl rfl) ?_
  refine okL_step 8 (Ty.agg [(tI a0.c.Params), (tI a0.c.Regs), (tL 5 Block.ty a0.c.Blocks)]) rfl rfl (does_loadBA [(tI a0.c.Params), (tI a0.c.Regs), (tL 5 Block.ty a0.c.Blocks)] Tryd.isAgg27 Tryd.sizeOf27 rfl 1 rfl rfl rfl) ?_
  refine okL_stepO 5 rfl rfl (doesO_alloc [(tI 0), (tI 0), (Ty.val (.slice none 0 0))] Tryd.zeroValue27 (part_of (sub_agg [(.int .i64 0), (.int .i64 0), (.slice none 0 0)] rfl) (part_agg _)) (fun g3 => ?_))
  refine okL_stepU rfl (doesO_storeB (ps := [(tI a0.c.Params), (tI a0.c.Regs), (tL 5 Block.ty a0.c.Blocks)]) 0 [(tI a0.c.Params), (tI a0.c.Regs), (tL 5 Block.ty a0.c.Blocks)] (Item.blk g3 27 [(tI a0.c.Params), (tI a0.c.Regs), (tL 5 Block.ty a0.c.Blocks)] :: Item.blk g2 76 [(tI a1.Reg), (tI a1.Reason), (tI a1.Block), (tI a1.Index), (tL 1 lI a1.Others)] :: Item.blk g1 127 [(tI a0.c.Params), (tI a0.c.Regs), (tL 5 Block.ty a0.c.Blocks), (Ty.val (.map (some g0)))] :: mapL g0 (tL 1 lIs) a0.l :: L) rfl rfl (part_agg _) Tryd.sizeOf27 rfl rfl rfl rfl ?_)
  refine okL_nil ?_
  refine okX_next ?_
  refine okC_seq ?_
  obtain ⟨z6, h8, hz7⟩ := bs h
  refine okC_meet (X := Bool) (fun x => z6 = x) (fun x : Bool => [(2, (pAt g1 0)), (3, (pAt g2 0)), (5, (pAt g3 0)), (43, (tB x))]) (fun x : Bool => Item.blk g3 27 [(tI a0.c.Params), (tI a0.c.Regs), (tL 5 Block.ty a0.c.Blocks)] :: Item.blk g2 76 [(tI a1.Reg), (tI a1.Reason), (tI a1.Block), (tI a1.Index), (tL 1 lI a1.Others)] :: Item.blk g1 127 [(tI a0.c.Params), (tI a0.c.Regs), (tL 5 Block.ty a0.c.Blocks), (Ty.val (.map (some g0)))] :: mapL g0 (tL 1 lIs) a0.l :: L) ?_ ?_
  · refine okC_cov [(2, (pAt g1 0)), (3, (pAt g2 0)), (5, (pAt g3 0))] (cc rfl (cc rfl (cc rfl cn))) ?_
    refine okC_split (decide (a1.Block < 0)) (fun hb9 => ?_) (fun hb9 => ?_)
    · replace h8 := ct hb9 h8
      refine okC_draw 27 [some (9, (pAt g2 2)), some (10, (tI a1.Block)), some (11, (tB (decide (a1.Block < 0)))), some (12, (tB (decide (a1.Block < 0)))), some (13, (Ty.val undef)), some (14, (Ty.val undef)), some (15, (Ty.val undef)), some (16, (Ty.val undef)), some (17, (Ty.val undef)), some (18, (Ty.val undef)), some (19, (tB true)), some (20, (tB true)), some (21, (Ty.val undef)), some (22, (Ty.val undef)), some (23, (Ty.val undef)), some (24, (tB true)), some (25, (tB true)), some (26, (Ty.val undef)), some (27, (Ty.val undef)), some (28, (Ty.val undef)), some (29, (Ty.val undef)), some (30, (Ty.val undef)), some (31, (Ty.val undef)), some (32, (Ty.val undef)), some (33, (Ty.val undef)), some (34, (Ty.val undef)), some (35, (Ty.val undef))] ⟨Item.blk g3 27 [(tI a0.c.Params), (tI a0.c.Regs), (tL 5 Block.ty a0.c.Blocks)] :: Item.blk g2 76 [(tI a1.Reg), (tI a1.Reason), (tI a1.Block), (tI a1.Index), (tL 1 lI a1.Others)] :: Item.blk g1 127 [(tI a0.c.Params), (tI a0.c.Regs), (tL 5 Block.ty a0.c.Blocks), (Ty.val (.map (some g0)))] :: mapL g0 (tL 1 lIs) a0.l :: ([] : List Item), Item.blk g3 27 [(tI a0.c.Params), (tI a0.c.Regs), (tL 5 Block.ty a0.c.Blocks)] :: Item.blk g2 76 [(tI a1.Reg), (tI a1.Reason), (tI a1.Block), (tI a1.Index), (tL 1 lI a1.Others)] :: Item.blk g1 127 [(tI a0.c.Params), (tI a0.c.Regs), (tL 5 Block.ty a0.c.Blocks), (Ty.val (.map (some g0)))] :: mapL g0 (tL 1 lIs) a0.l :: ([] : List Item), []⟩ [] mixed rfl rfl (by kernel_rfl) rfl (by kernel_rfl) rfl rfl rfl (fun _ h => List.Sublist.subset (.cons_cons _ (.cons_cons _ (.cons_cons _ (.cons_cons _ (List.nil_sublist _))))) h) (fun _ h => List.Sublist.subset (.cons_cons _ (.cons_cons _ (.cons_cons _ (.cons_cons _ (List.nil_sublist _))))) h) rfl (by kernel_rfl) (.inr ⟨by kernel_rfl, by kernel_rfl⟩) (by kernel_rfl) (by kernel_rfl) (dc (draw_plain rfl (does_fieldAddrP 2 Tryd.underlying76 rfl Tryd.sizeOf3 rfl rfl)) (dc (draw_plain rfl (does_loadB1 Tryd.isAgg3 rfl 1 rfl rfl)) (dc (draw_plain rfl (does_lss rfl rfl)) (dc (draw_plain rfl (does_move rfl)) (dc (draw_off 12 (decide (a1.Block < 0)) rfl rfl rfl hb9) (dc (draw_off 12 (decide (a1.Block < 0)) rfl rfl rfl hb9) (dc (draw_off 12 (decide (a1.Block < 0)) rfl rfl rfl hb9) (dc (draw_off 12 (decide (a1.Block < 0)) rfl rfl rfl hb9) (dc (draw_off 12 (decide (a1.Block < 0)) rfl rfl rfl hb9) (dc (draw_off 12 (decide (a1.Block < 0)) rfl rfl rfl hb9) (dc (draw_plain rfl (does_pick_t (decide (a1.Block < 0)) rfl hb9 rfl)) (dc (draw_plain rfl (does_move rfl)) (dc (draw_off 20 true rfl rfl rfl rfl) (dc (draw_off 20 true rfl rfl rfl rfl) (dc (draw_off 20 true rfl rfl rfl rfl) (dc (draw_plain rfl (does_pick_t true rfl rfl rfl)) (dc (draw_plain rfl (does_move rfl)) (dc (draw_off 25 true rfl rfl rfl rfl) (dc (draw_off 25 true rfl rfl rfl rfl) (dc (draw_off 25 true rfl rfl rfl rfl) (dc (draw_off 25 true rfl rfl rfl rfl) (dc (draw_off 25 true rfl rfl rfl rfl) (dc (draw_off 25 true rfl rfl rfl rfl) (dc (draw_off 25 true rfl rfl rfl rfl) (dc (draw_off 25 true rfl rfl rfl rfl) (dc (draw_off 25 true rfl rfl rfl rfl) (dc (draw_off 25 true rfl rfl rfl rfl) (dn)))))))))))))))))))))))))))) ?_
      refine ch_end ?_
      change OkL _ _ _ _ [(9, (pAt g2 2)), (10, (tI a1.Block)), (11, (tB (decide (a1.Block < 0)))), (12, (tB (decide (a1.Block < 0)))), (13, (Ty.val undef)), (14, (Ty.val undef)), (15, (Ty.val undef)), (16, (Ty.val undef)), (17, (Ty.val undef)), (18, (Ty.val undef)), (19, (tB true)), (20, (tB true)), (21, (Ty.val undef)), (22, (Ty.val undef)), (23, (Ty.val undef)), (24, (tB true)), (25, (tB true)), (26, (Ty.val undef)), (27, (Ty.val undef)), (28, (Ty.val undef)), (29, (Ty.val undef)), (30, (Ty.val undef)), (31, (Ty.val undef)), (32, (Ty.val undef)), (33, (Ty.val undef)), (34, (Ty.val undef)), (35, (Ty.val undef)), (2, (pAt g1 0)), (3, (pAt g2 0)), (5, (pAt g3 0))] (Item.blk g3 27 [(tI a0.c.Params), (tI a0.c.Regs), (tL 5 Block.ty a0.c.Blocks)] :: Item.blk g2 76 [(tI a1.Reg), (tI a1.Reason), (tI a1.Block), (tI a1.Index), (tL 1 lI a1.Others)] :: Item.blk g1 127 [(tI a0.c.Params), (tI a0.c.Regs), (tL 5 Block.ty a0.c.Blocks), (Ty.val (.map (some g0)))] :: mapL g0 (tL 1 lIs) a0.l :: L)
      refine okL_skip 36 25 true rfl rfl rfl rfl rfl ?_
      refine okL_step 37 (tB true) rfl rfl (does_pick_t true rfl rfl rfl) ?_
      refine okL_step 38 (tB true) rfl rfl (does_move rfl) ?_
      refine okL_skip 39 38 true rfl rfl rfl rfl rfl ?_
      refine okL_skip 40 38 true rfl rfl rfl rfl rfl ?_
      refine okL_skip 41 38 true rfl rfl rfl rfl rfl ?_
      refine okL_skip 42 38 true rfl rfl rfl rfl rfl ?_
      refine okL_step 43 (tB true) rfl rfl (does_pick_t true rfl rfl rfl) ?_
      refine okL_nil ?_
      exact okX_meet (I := _) true (smh h8) (cc rfl (cc rfl (cc rfl (cc rfl cn)))) rfl
    · replace h8 := cf hb9 h8
      refine okC_split (decide (a1.Block ≥ ((a0.c.Blocks).length : Int))) (fun hb10 => ?_) (fun hb10 => ?_)
      · replace h8 := ct hb10 h8
        refine okC_draw 27 [some (9, (pAt g2 2)), some (10, (tI a1.Block)), some (11, (tB (decide (a1.Block < 0)))), some (12, (tB (decide (a1.Block < 0)))), some (13, (pAt g2 2)), some (14, (tI a1.Block)), some (15, (pAt g3 2)), some (16, (tL 5 Block.ty a0.c.Blocks)), some (17, (tI ((a0.c.Blocks).length : Int))), some (18, (tB (decide (a1.Block ≥ ((a0.c.Blocks).length : Int))))), some (19, (tB (decide (a1.Block ≥ ((a0.c.Blocks).length : Int))))), some (20, (tB (decide (a1.Block ≥ ((a0.c.Blocks).length : Int))))), some (21, (Ty.val undef)), some (22, (Ty.val undef)), some (23, (Ty.val undef)), some (24, (tB true)), some (25, (tB true)), some (26, (Ty.val undef)), some (27, (Ty.val undef)), some (28, (Ty.val undef)), some (29, (Ty.val undef)), some (30, (Ty.val undef)), some (31, (Ty.val undef)), some (32, (Ty.val undef)), some (33, (Ty.val undef)), some (34, (Ty.val undef)), some (35, (Ty.val undef))] ⟨Item.blk g3 27 [(tI a0.c.Params), (tI a0.c.Regs), (tL 5 Block.ty a0.c.Blocks)] :: Item.blk g2 76 [(tI a1.Reg), (tI a1.Reason), (tI a1.Block), (tI a1.Index), (tL 1 lI a1.Others)] :: Item.blk g1 127 [(tI a0.c.Params), (tI a0.c.Regs), (tL 5 Block.ty a0.c.Blocks), (Ty.val (.map (some g0)))] :: mapL g0 (tL 1 lIs) a0.l :: ([] : List Item), Item.blk g3 27 [(tI a0.c.Params), (tI a0.c.Regs), (tL 5 Block.ty a0.c.Blocks)] :: Item.blk g2 76 [(tI a1.Reg), (tI a1.Reason), (tI a1.Block), (tI a1.Index), (tL 1 lI a1.Others)] :: Item.blk g1 127 [(tI a0.c.Params), (tI a0.c.Regs), (tL 5 Block.ty a0.c.Blocks), (Ty.val (.map (some g0)))] :: mapL g0 (tL 1 lIs) a0.l :: ([] : List Item), []⟩ [] mixed rfl rfl (by kernel_rfl) rfl (by kernel_rfl) rfl rfl rfl (fun _ h => List.Sublist.subset (.cons_cons _ (.cons_cons _ (.cons_cons _ (.cons_cons _ (List.nil_sublist _))))) h) (fun _ h => List.Sublist.subset (.cons_cons _ (.cons_cons _ (.cons_cons _ (.cons_cons _ (List.nil_sublist _))))) h) rfl (by kernel_rfl) (.inr ⟨by kernel_rfl, by kernel_rfl⟩) (by kernel_rfl) (by kernel_rfl) (dc (draw_plain rfl (does_fieldAddrP 2 Tryd.underlying76 rfl Tryd.sizeOf3 rfl rfl)) (dc (draw_plain rfl (does_loadB1 Tryd.isAgg3 rfl 1 rfl rfl)) (dc (draw_plain rfl (does_lss rfl rfl)) (dc (draw_plain rfl (does_move rfl)) (dc (draw_on 12 (decide (a1.Block < 0)) rfl rfl rfl hb9 (does_fieldAddrP 2 Tryd.underlying76 rfl Tryd.sizeOf3 rfl rfl)) (dc (draw_on 12 (decide (a1.Block < 0)) rfl rfl rfl hb9 (does_loadB1 Tryd.isAgg3 rfl 1 rfl rfl)) (dc (draw_on 12 (decide (a1.Block < 0)) rfl rfl rfl hb9 (does_fieldAddrP 2 Tryd.underlying27 rfl Tryd.sizeOf25 rfl rfl)) (dc (draw_on 12 (decide (a1.Block < 0)) rfl rfl rfl hb9 (does_loadB1 Tryd.isAgg25 rfl 0 rfl rfl)) (dc (draw_on 12 (decide (a1.Block < 0)) rfl rfl rfl hb9 (does_len (sz := 5) (f := Block.ty) (l := a0.c.Blocks) rfl Tryd.underlying25 rfl)) (dc (draw_on 12 (decide (a1.Block < 0)) rfl rfl rfl hb9 (does_geq rfl rfl)) (dc (draw_plain rfl (does_pick_f (decide (a1.Block < 0)) rfl hb9 rfl)) (dc (draw_plain rfl (does_move rfl)) (dc (draw_off 20 (decide (a1.Block ≥ ((a0.c.Blocks).length : Int))) rfl rfl rfl hb10) (dc (draw_off 20 (decide (a1.Block ≥ ((a0.c.Blocks).length : Int))) rfl rfl rfl hb10) (dc (draw_off 20 (decide (a1.Block ≥ ((a0.c.Blocks).length : Int))) rfl rfl rfl hb10) (dc (draw_plain rfl (does_pick_t (decide (a1.Block ≥ ((a0.c.Blocks).length : Int))) rfl hb10 rfl)) (dc (draw_plain rfl (does_move rfl)) (dc (draw_off 25 true rfl rfl rfl rfl) (dc (draw_off 25 true rfl rfl rfl rfl) (dc (draw_off 25 true rfl rfl rfl rfl) (dc (draw_off 25 true rfl rfl rfl rfl) (dc (draw_off 25 true rfl rfl rfl rfl) (dc (draw_off 25 true rfl rfl rfl rfl) (dc (draw_off 25 true rfl rfl rfl rfl) (dc (draw_off 25 true rfl rfl rfl rfl) (dc (draw_off 25 true rfl rfl rfl rfl) (dc (draw_off 25 true rfl rfl rfl rfl) (dn)))))))))))))))))))))))))))) ?_
        refine ch_end ?_
        change OkL _ _ _ _ [(9, (pAt g2 2)), (10, (tI a1.Block)), (11, (tB (decide (a1.Block < 0)))), (12, (tB (decide (a1.Block < 0)))), (13, (pAt g2 2)), (14, (tI a1.Block)), (15, (pAt g3 2)), (16, (tL 5 Block.ty a0.c.Blocks)), (17, (tI ((a0.c.Blocks).length : Int))), (18, (tB (decide (a1.Block ≥ ((a0.c.Blocks).length : Int))))), (19, (tB (decide (a1.Block ≥ ((a0.c.Blocks).length : Int))))), (20, (tB (decide (a1.Block ≥ ((a0.c.Blocks).length : Int))))), (21, (Ty.val undef)), (22, (Ty.val undef)), (23, (Ty.val undef)), (24, (tB true)), (25, (tB true)), (26, (Ty.val undef)), (27, (Ty.val undef)), (28, (Ty.val undef)), (29, (Ty.val undef)), (30, (Ty.val undef)), (31, (Ty.val undef)), (32, (Ty.val undef)), (33, (Ty.val undef)), (34, (Ty.val undef)), (35, (Ty.val undef)), (2, (pAt g1 0)), (3, (pAt g2 0)), (5, (pAt g3 0))] (Item.blk g3 27 [(tI a0.c.Params), (tI a0.c.Regs), (tL 5 Block.ty a0.c.Blocks)] :: Item.blk g2 76 [(tI a1.Reg), (tI a1.Reason), (tI a1.Block), (tI a1.Index), (tL 1 lI a1.Others)] :: Item.blk g1 127 [(tI a0.c.Params), (tI a0.c.Regs), (tL 5 Block.ty a0.c.Blocks), (Ty.val (.map (some g0)))] :: mapL g0 (tL 1 lIs) a0.l :: L)
        refine okL_skip 36 25 true rfl rfl rfl rfl rfl ?_
        refine okL_step 37 (tB true) rfl rfl (does_pick_t true rfl rfl rfl) ?_
        refine okL_step 38 (tB true) rfl rfl (does_move rfl) ?_
        refine okL_skip 39 38 true rfl rfl rfl rfl rfl ?_
        refine okL_skip 40 38 true rfl rfl rfl rfl rfl ?_
        refine okL_skip 41 38 true rfl rfl rfl rfl rfl ?_
        refine okL_skip 42 38 true rfl rfl rfl rfl rfl ?_
        refine okL_step 43 (tB true) rfl rfl (does_pick_t true rfl rfl rfl) ?_
        refine okL_nil ?_
        exact okX_meet (I := _) true (smh h8) (cc rfl (cc rfl (cc rfl (cc rfl cn)))) rfl
      · replace h8 := cf hb10 h8
        refine okC_split (decide (a1.Index < 0)) (fun hb11 => ?_) (fun hb11 => ?_)
        · replace h8 := ct hb11 h8
          refine okC_draw 27 [some (9, (pAt g2 2)), some (10, (tI a1.Block)), some (11, (tB (decide (a1.Block < 0)))), some (12, (tB (decide (a1.Block < 0)))), some (13, (pAt g2 2)), some (14, (tI a1.Block)), some (15, (pAt g3 2)), some (16, (tL 5 Block.ty a0.c.Blocks)), some (17, (tI ((a0.c.Blocks).length : Int))), some (18, (tB (decide (a1.Block ≥ ((a0.c.Blocks).length : Int))))), some (19, (tB (decide (a1.Block ≥ ((a0.c.Blocks).length : Int))))), some (20, (tB (decide (a1.Block ≥ ((a0.c.Blocks).length : Int))))), some (21, (pAt g2 3)), some (22, (tI a1.Index)), some (23, (tB (decide (a1.Index < 0)))), some (24, (tB (decide (a1.Index < 0)))), some (25, (tB (decide (a1.Index < 0)))), some (26, (Ty.val undef)), some (27, (Ty.val undef)), some (28, (Ty.val undef)), some (29, (Ty.val undef)), some (30, (Ty.val undef)), some (31, (Ty.val undef)), some (32, (Ty.val undef)), some (33, (Ty.val undef)), some (34, (Ty.val undef)), some (35, (Ty.val undef))] ⟨Item.blk g3 27 [(tI a0.c.Params), (tI a0.c.Regs), (tL 5 Block.ty a0.c.Blocks)] :: Item.blk g2 76 [(tI a1.Reg), (tI a1.Reason), (tI a1.Block), (tI a1.Index), (tL 1 lI a1.Others)] :: Item.blk g1 127 [(tI a0.c.Params), (tI a0.c.Regs), (tL 5 Block.ty a0.c.Blocks), (Ty.val (.map (some g0)))] :: mapL g0 (tL 1 lIs) a0.l :: ([] : List Item), Item.blk g3 27 [(tI a0.c.Params), (tI a0.c.Regs), (tL 5 Block.ty a0.c.Blocks)] :: Item.blk g2 76 [(tI a1.Reg), (tI a1.Reason), (tI a1.Block), (tI a1.Index), (tL 1 lI a1.Others)] :: Item.blk g1 127 [(tI a0.c.Params), (tI a0.c.Regs), (tL 5 Block.ty a0.c.Blocks), (Ty.val (.map (some g0)))] :: mapL g0 (tL 1 lIs) a0.l :: ([] : List Item), []⟩ [] mixed rfl rfl (by kernel_rfl) rfl (by kernel_rfl) rfl rfl rfl (fun _ h => List.Sublist.subset (.cons_cons _ (.cons_cons _ (.cons_cons _ (.cons_cons _ (List.nil_sublist _))))) h) (fun _ h => List.Sublist.subset (.cons_cons _ (.cons_cons _ (.cons_cons _ (.cons_cons _ (List.nil_sublist _))))) h) rfl (by kernel_rfl) (.inr ⟨by kernel_rfl, by kernel_rfl⟩) (by kernel_rfl) (by kernel_rfl) (dc (draw_plain rfl (does_fieldAddrP 2 Tryd.underlying76 rfl Tryd.sizeOf3 rfl rfl)) (dc (draw_plain rfl (does_loadB1 Tryd.isAgg3 rfl 1 rfl rfl)) (dc (draw_plain rfl (does_lss rfl rfl)) (dc (draw_plain rfl (does_move rfl)) (dc (draw_on 12 (decide (a1.Block < 0)) rfl rfl rfl hb9 (does_fieldAddrP 2 Tryd.underlying76 rfl Tryd.sizeOf3 rfl rfl)) (dc (draw_on 12 (decide (a1.Block < 0)) rfl rfl rfl hb9 (does_loadB1 Tryd.isAgg3 rfl 1 rfl rfl)) (dc (draw_on 12 (decide (a1.Block < 0)) rfl rfl rfl hb9 (does_fieldAddrP 2 Tryd.underlying27 rfl Tryd.sizeOf25 rfl rfl)) (dc (draw_on 12 (decide (a1.Block < 0)) rfl rfl rfl hb9 (does_loadB1 Tryd.isAgg25 rfl 0 rfl rfl)) (dc (draw_on 12 (decide (a1.Block < 0)) rfl rfl rfl hb9 (does_len (sz := 5) (f := Block.ty) (l := a0.c.Blocks) rfl Tryd.underlying25 rfl)) (dc (draw_on 12 (decide (a1.Block < 0)) rfl rfl rfl hb9 (does_geq rfl rfl)) (dc (draw_plain rfl (does_pick_f (decide (a1.Block < 0)) rfl hb9 rfl)) (dc (draw_plain rfl (does_move rfl)) (dc (draw_on 20 (decide (a1.Block ≥ ((a0.c.Blocks).length : Int))) rfl rfl rfl hb10 (does_fieldAddrP 3 Tryd.underlying76 rfl Tryd.sizeOf3 rfl rfl)) (dc (draw_on 20 (decide (a1.Block ≥ ((a0.c.Blocks).length : Int))) rfl rfl rfl hb10 (does_loadB1 Tryd.isAgg3 rfl 1 rfl rfl)) (dc (draw_on 20 (decide (a1.Block ≥ ((a0.c.Blocks).length : Int))) rfl rfl rfl hb10 (does_lss rfl rfl)) (dc (draw_plain rfl (does_pick_f (decide (a1.Block ≥ ((a0.c.Blocks).length : Int))) rfl hb10 rfl)) (dc (draw_plain rfl (does_move rfl)) (dc (draw_off 25 (decide (a1.Index < 0)) rfl rfl rfl hb11) (dc (draw_off 25 (decide (a1.Index < 0)) rfl rfl rfl hb11) (dc (draw_off 25 (decide (a1.Index < 0)) rfl rfl rfl hb11) (dc (draw_off 25 (decide (a1.Index < 0)) rfl rfl rfl hb11) (dc (draw_off 25 (decide (a1.Index < 0)) rfl rfl rfl hb11) (dc (draw_off 25 (decide (a1.Index < 0)) rfl rfl rfl hb11) (dc (draw_off 25 (decide (a1.Index < 0)) rfl rfl rfl hb11) (dc (draw_off 25 (decide (a1.Index < 0)) rfl rfl rfl hb11) (dc (draw_off 25 (decide (a1.Index < 0)) rfl rfl rfl hb11) (dc (draw_off 25 (decide (a1.Index < 0)) rfl rfl rfl hb11) (dn)))))))))))))))))))))))))))) ?_
          refine ch_end ?_
          change OkL _ _ _ _ [(9, (pAt g2 2)), (10, (tI a1.Block)), (11, (tB (decide (a1.Block < 0)))), (12, (tB (decide (a1.Block < 0)))), (13, (pAt g2 2)), (14, (tI a1.Block)), (15, (pAt g3 2)), (16, (tL 5 Block.ty a0.c.Blocks)), (17, (tI ((a0.c.Blocks).length : Int))), (18, (tB (decide (a1.Block ≥ ((a0.c.Blocks).length : Int))))), (19, (tB (decide (a1.Block ≥ ((a0.c.Blocks).length : Int))))), (20, (tB (decide (a1.Block ≥ ((a0.c.Blocks).length : Int))))), (21, (pAt g2 3)), (22, (tI a1.Index)), (23, (tB (decide (a1.Index < 0)))), (24, (tB (decide (a1.Index < 0)))), (25, (tB (decide (a1.Index < 0)))), (26, (Ty.val undef)), (27, (Ty.val undef)), (28, (Ty.val undef)), (29, (Ty.val undef)), (30, (Ty.val undef)), (31, (Ty.val undef)), (32, (Ty.val undef)), (33, (Ty.val undef)), (34, (Ty.val undef)), (35, (Ty.val undef)), (2, (pAt g1 0)), (3, (pAt g2 0)), (5, (pAt g3 0))] (Item.blk g3 27 [(tI a0.c.Params), (tI a0.c.Regs), (tL 5 Block.ty a0.c.Blocks)] :: Item.blk g2 76 [(tI a1.Reg), (tI a1.Reason), (tI a1.Block), (tI a1.Index), (tL 1 lI a1.Others)] :: Item.blk g1 127 [(tI a0.c.Params), (tI a0.c.Regs), (tL 5 Block.ty a0.c.Blocks), (Ty.val (.map (some g0)))] :: mapL g0 (tL 1 lIs) a0.l :: L)
          refine okL_skip 36 25 (decide (a1.Index < 0)) rfl rfl hb11 rfl rfl ?_
          refine okL_step 37 (tB true) rfl rfl (does_pick_t (decide (a1.Index < 0)) rfl hb11 rfl) ?_
          refine okL_step 38 (tB true) rfl rfl (does_move rfl) ?_
          refine okL_skip 39 38 true rfl rfl rfl rfl rfl ?_
          refine okL_skip 40 38 true rfl rfl rfl rfl rfl ?_
          refine okL_skip 41 38 true rfl rfl rfl rfl rfl ?_
          refine okL_skip 42 38 true rfl rfl rfl rfl rfl ?_
          refine okL_step 43 (tB true) rfl rfl (does_pick_t true rfl rfl rfl) ?_
          refine okL_nil ?_
          exact okX_meet (I := _) true (smh h8) (cc rfl (cc rfl (cc rfl (cc rfl cn)))) rfl
        · replace h8 := cf hb11 h8
          obtain ⟨y12, hi13, h8⟩ := bs h8
          refine okC_draw 27 [some (9, (pAt g2 2)), some (10, (tI a1.Block)), some (11, (tB (decide (a1.Block < 0)))), some (12, (tB (decide (a1.Block < 0)))), some (13, (pAt g2 2)), some (14, (tI a1.Block)), some (15, (pAt g3 2)), some (16, (tL 5 Block.ty a0.c.Blocks)), some (17, (tI ((a0.c.Blocks).length : Int))), some (18, (tB (decide (a1.Block ≥ ((a0.c.Blocks).length : Int))))), some (19, (tB (decide (a1.Block ≥ ((a0.c.Blocks).length : Int))))), some (20, (tB (decide (a1.Block ≥ ((a0.c.Blocks).length : Int))))), some (21, (pAt g2 3)), some (22, (tI a1.Index)), some (23, (tB (decide (a1.Index < 0)))), some (24, (tB (decide (a1.Index < 0)))), some (25, (tB (decide (a1.Index < 0)))), some (26, (pAt g2 3)), some (27, (tI a1.Index)), some (28, (pAt g3 2)), some (29, (tL 5 Block.ty a0.c.Blocks)), some (30, (pAt g2 2)), some (31, (tI a1.Block)), some (32, (Ty.ptr [(tL 6 VInstr.ty y12.Instrs), (tI y12.End), (tI y12.Reg), (tI y12.Target), (tI y12.Else)])), some (33, (Ty.ptr [(tL 6 VInstr.ty y12.Instrs), (tI y12.End), (tI y12.Reg), (tI y12.Target), (tI y12.Else)])), some (34, (tL 6 VInstr.ty y12.Instrs)), some (35, (tI ((y12.Instrs).length : Int)))] ⟨Item.blk g3 27 [(tI a0.c.Params), (tI a0.c.Regs), (tL 5 Block.ty a0.c.Blocks)] :: Item.blk g2 76 [(tI a1.Reg), (tI a1.Reason), (tI a1.Block), (tI a1.Index), (tL 1 lI a1.Others)] :: Item.blk g1 127 [(tI a0.c.Params), (tI a0.c.Regs), (tL 5 Block.ty a0.c.Blocks), (Ty.val (.map (some g0)))] :: mapL g0 (tL 1 lIs) a0.l :: ([] : List Item), Item.blk g3 27 [(tI a0.c.Params), (tI a0.c.Regs), (tL 5 Block.ty a0.c.Blocks)] :: Item.blk g2 76 [(tI a1.Reg), (tI a1.Reason), (tI a1.Block), (tI a1.Index), (tL 1 lI a1.Others)] :: Item.blk g1 127 [(tI a0.c.Params), (tI a0.c.Regs), (tL 5 Block.ty a0.c.Blocks), (Ty.val (.map (some g0)))] :: mapL g0 (tL 1 lIs) a0.l :: ([] : List Item), []⟩ [] mixed rfl rfl (by kernel_rfl) rfl (by kernel_rfl) rfl rfl rfl (fun _ h => List.Sublist.subset (.cons_cons _ (.cons_cons _ (.cons_cons _ (.cons_cons _ (List.nil_sublist _))))) h) (fun _ h => List.Sublist.subset (.cons_cons _ (.cons_cons _ (.cons_cons _ (.cons_cons _ (List.nil_sublist _))))) h) rfl (by kernel_rfl) (.inr ⟨by kernel_rfl, by kernel_rfl⟩) (by kernel_rfl) (by kernel_rfl) (dc (draw_plain rfl (does_fieldAddrP 2 Tryd.underlying76 rfl Tryd.sizeOf3 rfl rfl)) (dc (draw_plain rfl (does_loadB1 Tryd.isAgg3 rfl 1 rfl rfl)) (dc (draw_plain rfl (does_lss rfl rfl)) (dc (draw_plain rfl (does_move rfl)) (dc (draw_on 12 (decide (a1.Block < 0)) rfl rfl rfl hb9 (does_fieldAddrP 2 Tryd.underlying76 rfl Tryd.sizeOf3 rfl rfl)) (dc (draw_on 12 (decide (a1.Block < 0)) rfl rfl rfl hb9 (does_loadB1 Tryd.isAgg3 rfl 1 rfl rfl)) (dc (draw_on 12 (decide (a1.Block < 0)) rfl rfl rfl hb9 (does_fieldAddrP 2 Tryd.underlying27 rfl Tryd.sizeOf25 rfl rfl)) (dc (draw_on 12 (decide (a1.Block < 0)) rfl rfl rfl hb9 (does_loadB1 Tryd.isAgg25 rfl 0 rfl rfl)) (dc (draw_on 12 (decide (a1.Block < 0)) rfl rfl rfl hb9 (does_len (sz := 5) (f := Block.ty) (l := a0.c.Blocks) rfl Tryd.underlying25 rfl)) (dc (draw_on 12 (decide (a1.Block < 0)) rfl rfl rfl hb9 (does_geq rfl rfl)) (dc (draw_plain rfl (does_pick_f (decide (a1.Block < 0)) rfl hb9 rfl)) (dc (draw_plain rfl (does_move rfl)) (dc (draw_on 20 (decide (a1.Block ≥ ((a0.c.Blocks).length : Int))) rfl rfl rfl hb10 (does_fieldAddrP 3 Tryd.underlying76 rfl Tryd.sizeOf3 rfl rfl)) (dc (draw_on 20 (decide (a1.Block ≥ ((a0.c.Blocks).length : Int))) rfl rfl rfl hb10 (does_loadB1 Tryd.isAgg3 rfl 1 rfl rfl)) (dc (draw_on 20 (decide (a1.Block ≥ ((a0.c.Blocks).length : Int))) rfl rfl rfl hb10 (does_lss rfl rfl)) (dc (draw_plain rfl (does_pick_f (decide (a1.Block ≥ ((a0.c.Blocks).length : Int))) rfl hb10 rfl)) (dc (draw_plain rfl (does_move rfl)) (dc (draw_on 25 (decide (a1.Index < 0)) rfl rfl rfl hb11 (does_fieldAddrP 3 Tryd.underlying76 rfl Tryd.sizeOf3 rfl rfl)) (dc (draw_on 25 (decide (a1.Index < 0)) rfl rfl rfl hb11 (does_loadB1 Tryd.isAgg3 rfl 1 rfl rfl)) (dc (draw_on 25 (decide (a1.Index < 0)) rfl rfl rfl hb11 (does_fieldAddrP 2 Tryd.underlying27 rfl Tryd.sizeOf25 rfl rfl)) (dc (draw_on 25 (decide (a1.Index < 0)) rfl rfl rfl hb11 (does_loadB1 Tryd.isAgg25 rfl 0 rfl rfl)) (dc (draw_on 25 (decide (a1.Index < 0)) rfl rfl rfl hb11 (does_fieldAddrP 2 Tryd.underlying76 rfl Tryd.sizeOf3 rfl rfl)) (dc (draw_on 25 (decide (a1.Index < 0)) rfl rfl rfl hb11 (does_loadB1 Tryd.isAgg3 rfl 1 rfl rfl)) (dc (draw_on 25 (decide (a1.Index < 0)) rfl rfl rfl hb11 (does_index (sz := 5) (f := Block.ty) (l := a0.c.Blocks) (n := a1.Block) y12 Tryd.underlying25 Tryd.sizeOf43 hi13 rfl rfl)) (dc (draw_on 25 (decide (a1.Index < 0)) rfl rfl rfl hb11 (does_fieldAddr [(tL 6 VInstr.ty y12.Instrs), (tI y12.End), (tI y12.Reg), (tI y12.Target), (tI y12.Else)] Tryd.underlying43 rfl Tryd.sizeOf41 rfl rfl)) (dc (draw_on 25 (decide (a1.Index < 0)) rfl rfl rfl hb11 (does_load1 Tryd.isAgg41 rfl)) (dc (draw_on 25 (decide (a1.Index < 0)) rfl rfl rfl hb11 (does_len (sz := 6) (f := VInstr.ty) (l := y12.Instrs) rfl Tryd.underlying41 rfl)) (dn)))))))))))))))))))))))))))) ?_
          refine ch_end ?_
          change OkL _ _ _ _ [(9, (pAt g2 2)), (10, (tI a1.Block)), (11, (tB (decide (a1.Block < 0)))), (12, (tB (decide (a1.Block < 0)))), (13, (pAt g2 2)), (14, (tI a1.Block)), (15, (pAt g3 2)), (16, (tL 5 Block.ty a0.c.Blocks)), (17, (tI ((a0.c.Blocks).length : Int))), (18, (tB (decide (a1.Block ≥ ((a0.c.Blocks).length : Int))))), (19, (tB (decide (a1.Block ≥ ((a0.c.Blocks).length : Int))))), (20, (tB (decide (a1.Block ≥ ((a0.c.Blocks).length : Int))))), (21, (pAt g2 3)), (22, (tI a1.Index)), (23, (tB (decide (a1.Index < 0)))), (24, (tB (decide (a1.Index < 0)))), (25, (tB (decide (a1.Index < 0)))), (26, (pAt g2 3)), (27, (tI a1.Index)), (28, (pAt g3 2)), (29, (tL 5 Block.ty a0.c.Blocks)), (30, (pAt g2 2)), (31, (tI a1.Block)), (32, (Ty.ptr [(tL 6 VInstr.ty y12.Instrs), (tI y12.End), (tI y12.Reg), (tI y12.Target), (tI y12.Else)])), (33, (Ty.ptr [(tL 6 VInstr.ty y12.Instrs), (tI y12.End), (tI y12.Reg), (tI y12.Target), (tI y12.Else)])), (34, (tL 6 VInstr.ty y12.Instrs)), (35, (tI ((y12.Instrs).length : Int))), (2, (pAt g1 0)), (3, (pAt g2 0)), (5, (pAt g3 0))] (Item.blk g3 27 [(tI a0.c.Params), (tI a0.c.Regs), (tL 5 Block.ty a0.c.Blocks)] :: Item.blk g2 76 [(tI a1.Reg), (tI a1.Reason), (tI a1.Block), (tI a1.Index), (tL 1 lI a1.Others)] :: Item.blk g1 127 [(tI a0.c.Params), (tI a0.c.Regs), (tL 5 Block.ty a0.c.Blocks), (Ty.val (.map (some g0)))] :: mapL g0 (tL 1 lIs) a0.l :: L)
          refine okL_guard 36 (tB (decide (a1.Index ≥ ((y12.Instrs).length : Int)))) 25 (decide (a1.Index < 0)) rfl rfl hb11 rfl rfl (does_geq rfl rfl) ?_
          refine okL_step 37 (tB (decide (a1.Index ≥ ((y12.Instrs).length : Int)))) rfl rfl (does_pick_f (decide (a1.Index < 0)) rfl hb11 rfl) ?_
          refine okL_step 38 (tB (decide (a1.Index ≥ ((y12.Instrs).length : Int)))) rfl rfl (does_move rfl) ?_
          refine okL_meet (X := Bool) 5 (fun x => x = ((decide (a1.Index ≥ ((y12.Instrs).length : Int))) || (decide (((a1.Others).length : Int) > 0)))) (fun x : Bool => [(2, (pAt g1 0)), (3, (pAt g2 0)), (5, (pAt g3 0)), (43, (tB x))]) (fun x : Bool => Item.blk g3 27 [(tI a0.c.Params), (tI a0.c.Regs), (tL 5 Block.ty a0.c.Blocks)] :: Item.blk g2 76 [(tI a1.Reg), (tI a1.Reason), (tI a1.Block), (tI a1.Index), (tL 1 lI a1.Others)] :: Item.blk g1 127 [(tI a0.c.Params), (tI a0.c.Regs), (tL 5 Block.ty a0.c.Blocks), (Ty.val (.map (some g0)))] :: mapL g0 (tL 1 lIs) a0.l :: L) _ rfl ?_ ?_
          · refine okL_split (decide (a1.Index ≥ ((y12.Instrs).length : Int))) (fun hb14 => ?_) (fun hb14 => ?_)
            · refine okL_skip 39 38 (decide (a1.Index ≥ ((y12.Instrs).length : Int))) rfl rfl hb14 rfl rfl ?_
              refine okL_skip 40 38 (decide (a1.Index ≥ ((y12.Instrs).length : Int))) rfl rfl hb14 rfl rfl ?_
              refine okL_skip 41 38 (decide (a1.Index ≥ ((y12.Instrs).length : Int))) rfl rfl hb14 rfl rfl ?_
              refine okL_skip 42 38 (decide (a1.Index ≥ ((y12.Instrs).length : Int))) rfl rfl hb14 rfl rfl ?_
              refine okL_step 43 (tB true) rfl rfl (does_pick_t (decide (a1.Index ≥ ((y12.Instrs).length : Int))) rfl hb14 rfl) ?_
              refine okL_nil ?_
              exact okX_meet (I := _) true (or_t hb14) (cc rfl (cc rfl (cc rfl (cc rfl cn)))) rfl
            · refine okL_guard 39 (pAt g2 4) 38 (decide (a1.Index ≥ ((y12.Instrs).length : Int))) rfl rfl hb14 rfl rfl (does_fieldAddrP 4 Tryd.underlying76 rfl Tryd.sizeOf31 rfl rfl) ?_
              refine okL_guard 40 (tL 1 lI a1.Others) 38 (decide (a1.Index ≥ ((y12.Instrs).length : Int))) rfl rfl hb14 rfl rfl (does_loadB1 Tryd.isAgg31 rfl 1 rfl rfl) ?_
              refine okL_guard 41 (tI ((a1.Others).length : Int)) 38 (decide (a1.Index ≥ ((y12.Instrs).length : Int))) rfl rfl hb14 rfl rfl (does_len (sz := 1) (f := lI) (l := a1.Others) rfl Tryd.underlying31 rfl) ?_
              refine okL_guard 42 (tB (decide (((a1.Others).length : Int) > 0))) 38 (decide (a1.Index ≥ ((y12.Instrs).length : Int))) rfl rfl hb14 rfl rfl (does_gtr rfl rfl) ?_
              refine okL_step 43 (tB (decide (((a1.Others).length : Int) > 0))) rfl rfl (does_pick_f (decide (a1.Index ≥ ((y12.Instrs).length : Int))) rfl hb14 rfl) ?_
              refine okL_nil ?_
              exact okX_meet (I := _) (decide (((a1.Others).length : Int) > 0)) (or_f hb14) (cc rfl (cc rfl (cc rfl (cc rfl cn)))) rfl
          · intro x15 hx
            subst hx
            change OkL _ _ _ _ [(2, (pAt g1 0)), (3, (pAt g2 0)), (5, (pAt g3 0)), (43, (tB ((decide (a1.Index ≥ ((y12.Instrs).length : Int))) || (decide (((a1.Others).length : Int) > 0)))))] (Item.blk g3 27 [(tI a0.c.Params), (tI a0.c.Regs), (tL 5 Block.ty a0.c.Blocks)] :: Item.blk g2 76 [(tI a1.Reg), (tI a1.Reason), (tI a1.Block), (tI a1.Index), (tL 1 lI a1.Others)] :: Item.blk g1 127 [(tI a0.c.Params), (tI a0.c.Regs), (tL 5 Block.ty a0.c.Blocks), (Ty.val (.map (some g0)))] :: mapL g0 (tL 1 lIs) a0.l :: L)
            refine okL_nil ?_
            exact okX_meet (I := _) ((decide (a1.Index ≥ ((y12.Instrs).length : Int))) || (decide (((a1.Others).length : Int) > 0))) (smh h8) (cc rfl (cc rfl (cc rfl (cc rfl cn)))) rfl
  · intro s4 hx
    change OkC _ _ _ [(2, (pAt g1 0)), (3, (pAt g2 0)), (5, (pAt g3 0)), (43, (tB s4))] (Item.blk g3 27 [(tI a0.c.Params), (tI a0.c.Regs), (tL 5 Block.ty a0.c.Blocks)] :: Item.blk g2 76 [(tI a1.Reg), (tI a1.Reason), (tI a1.Block), (tI a1.Index), (tL 1 lI a1.Others)] :: Item.blk g1 127 [(tI a0.c.Params), (tI a0.c.Regs), (tL 5 Block.ty a0.c.Blocks), (Ty.val (.map (some g0)))] :: mapL g0 (tL 1 lIs) a0.l :: L)
    obtain rfl : s4 = z6 := hx.symm
    replace h := hz7
    refine okC_cond (b := s4) rfl (fun hb16 => ?_) (fun hb16 => ?_)
    · replace h := ct hb16 h
      refine okC_seq ?_
      refine okC_region ?_
      refine okL_step 4 (tB false) rfl rfl (does_assign rfl) ?_
      refine okL_nil ?_
      refine okX_next ?_
      refine okC_ret ?_
      refine okX_then_ret ?_
      obtain rfl := (smh h).symm
      refine okX_items [Item.blk g3 27 [(tI a0.c.Params), (tI a0.c.Regs), (tL 5 Block.ty a0.c.Blocks)], Item.blk g2 76 [(tI a1.Reg), (tI a1.Reason), (tI a1.Block), (tI a1.Index), (tL 1 lI a1.Others)], Item.blk g1 127 [(tI a0.c.Params), (tI a0.c.Regs), (tL 5 Block.ty a0.c.Blocks), (Ty.val (.map (some g0)))]] (mapL g0 (tL 1 lIs) a0.l :: L) (pm 0 rfl (pm 0 rfl (pm 0 rfl (pm 0 rfl (pr _))))) ?_
      exact okX_ret1 () Tryd.results88 rfl rfl
    · replace h := cf hb16 h
      refine okC_skip ?_
      refine okX_next ?_
      refine okC_seq ?_
      refine okC_cov [(2, (pAt g1 0)), (3, (pAt g2 0)), (5, (pAt g3 0))] (cc rfl (cc rfl (cc rfl cn))) ?_
      obtain ⟨y17, hi18, h⟩ := bs h
      obtain ⟨y19, hi20, h⟩ := bs h
      refine okC_draw 12 [some (44, (pAt g3 2)), some (45, (tL 5 Block.ty a0.c.Blocks)), some (46, (pAt g2 2)), some (47, (tI a1.Block)), some (48, (Ty.ptr [(tL 6 VInstr.ty y17.Instrs), (tI y17.End), (tI y17.Reg), (tI y17.Target), (tI y17.Else)])), some (49, (Ty.ptr [(tL 6 VInstr.ty y17.Instrs), (tI y17.End), (tI y17.Reg), (tI y17.Target), (tI y17.Else)])), some (50, (tL 6 VInstr.ty y17.Instrs)), some (51, (pAt g2 3)), some (52, (tI a1.Index)), some (53, (Ty.ptr [(tI y19.Instr.Op), (tI y19.Instr.A), (tI y19.Instr.B), (tI y19.Instr.C), (tI y19.Instr.N), (tL 1 lI y19.Args)])), some (54, (Ty.agg [(tI y19.Instr.Op), (tI y19.Instr.A), (tI y19.Instr.B), (tI y19.Instr.C), (tI y19.Instr.N), (tL 1 lI y19.Args)])), none] ⟨Item.blk g3 27 [(tI a0.c.Params), (tI a0.c.Regs), (tL 5 Block.ty a0.c.Blocks)] :: Item.blk g2 76 [(tI a1.Reg), (tI a1.Reason), (tI a1.Block), (tI a1.Index), (tL 1 lI a1.Others)] :: Item.blk g1 127 [(tI a0.c.Params), (tI a0.c.Regs), (tL 5 Block.ty a0.c.Blocks), (Ty.val (.map (some g0)))] :: mapL g0 (tL 1 lIs) a0.l :: ([] : List Item), Item.blk g3 27 [(tI a0.c.Params), (tI a0.c.Regs), (tL 5 Block.ty a0.c.Blocks)] :: Item.blk g2 76 [(tI a1.Reg), (tI a1.Reason), (tI a1.Block), (tI a1.Index), (tL 1 lI a1.Others)] :: Item.blk g1 127 [(tI a0.c.Params), (tI a0.c.Regs), (tL 5 Block.ty a0.c.Blocks), (Ty.val (.map (some g0)))] :: mapL g0 (tL 1 lIs) a0.l :: ([] : List Item), []⟩ [11] mixed rfl rfl (by kernel_rfl) rfl (by kernel_rfl) rfl rfl rfl (fun _ h => List.Sublist.subset (.cons_cons _ (.cons_cons _ (.cons_cons _ (.cons_cons _ (List.nil_sublist _))))) h) (fun _ h => List.Sublist.subset (.cons_cons _ (.cons_cons _ (.cons_cons _ (.cons_cons _ (List.nil_sublist _))))) h) rfl (by kernel_rfl) (.inr ⟨by kernel_rfl, by kernel_rfl⟩) (by kernel_rfl) (by kernel_rfl) (dc (draw_plain rfl (does_fieldAddrP 2 Tryd.underlying27 rfl Tryd.sizeOf25 rfl rfl)) (dc (draw_plain rfl (does_loadB1 Tryd.isAgg25 rfl 0 rfl rfl)) (dc (draw_plain rfl (does_fieldAddrP 2 Tryd.underlying76 rfl Tryd.sizeOf3 rfl rfl)) (dc (draw_plain rfl (does_loadB1 Tryd.isAgg3 rfl 1 rfl rfl)) (dc (draw_plain rfl (does_index (sz := 5) (f := Block.ty) (l := a0.c.Blocks) (n := a1.Block) y17 Tryd.underlying25 Tryd.sizeOf43 hi18 rfl rfl)) (dc (draw_plain rfl (does_fieldAddr [(tL 6 VInstr.ty y17.Instrs), (tI y17.End), (tI y17.Reg), (tI y17.Target), (tI y17.Else)] Tryd.underlying43 rfl Tryd.sizeOf41 rfl rfl)) (dc (draw_plain rfl (does_load1 Tryd.isAgg41 rfl)) (dc (draw_plain rfl (does_fieldAddrP 3 Tryd.underlying76 rfl Tryd.sizeOf3 rfl rfl)) (dc (draw_plain rfl (does_loadB1 Tryd.isAgg3 rfl 1 rfl rfl)) (dc (draw_plain rfl (does_index (sz := 6) (f := VInstr.ty) (l := y17.Instrs) (n := a1.Index) y19 Tryd.underlying41 Tryd.sizeOf48 hi20 rfl rfl)) (dc (draw_plain rfl (does_loadA [(tI y19.Instr.Op), (tI y19.Instr.A), (tI y19.Instr.B), (tI y19.Instr.C), (tI y19.Instr.N), (tL 1 lI y19.Args)] Tryd.isAgg48 Tryd.sizeOf48 rfl rfl rfl)) (ds (dn))))))))))))) ?_
      refine ch_step [11] rfl (ap_cons (ch_at _ rfl rfl (doesO_alloc [(tI 0), (tI 0), (tI 0), (tI 0), (tI 0), (Ty.val (.slice none 0 0))] Tryd.zeroValue48 (part_of (sub_agg [(.int .i64 0), (.int .i64 0), (.int .i64 0), (.int .i64 0), (.int .i64 0), (.slice none 0 0)] rfl) (part_agg _)) (fun g21 => ?_))) (ap_nil))
      refine ⟨⟨(fun _ h => List.Sublist.subset (.cons _ (.cons_cons _ (.cons_cons _ (.cons_cons _ (.cons_cons _ (List.nil_sublist _)))))) h), .inr (fun _ h => List.Sublist.subset (.cons _ (.cons_cons _ (.cons_cons _ (.cons_cons _ (.cons_cons _ (List.nil_sublist _)))))) h)⟩, ?_⟩
      refine ch_end ?_
      change OkL _ _ _ _ [(44, (pAt g3 2)), (45, (tL 5 Block.ty a0.c.Blocks)), (46, (pAt g2 2)), (47, (tI a1.Block)), (48, (Ty.ptr [(tL 6 VInstr.ty y17.Instrs), (tI y17.End), (tI y17.Reg), (tI y17.Target), (tI y17.Else)])), (49, (Ty.ptr [(tL 6 VInstr.ty y17.Instrs), (tI y17.End), (tI y17.Reg), (tI y17.Target), (tI y17.Else)])), (50, (tL 6 VInstr.ty y17.Instrs)), (51, (pAt g2 3)), (52, (tI a1.Index)), (53, (Ty.ptr [(tI y19.Instr.Op), (tI y19.Instr.A), (tI y19.Instr.B), (tI y19.Instr.C), (tI y19.Instr.N), (tL 1 lI y19.Args)])), (54, (Ty.agg [(tI y19.Instr.Op), (tI y19.Instr.A), (tI y19.Instr.B), (tI y19.Instr.C), (tI y19.Instr.N), (tL 1 lI y19.Args)])), (6, (pAt g21 0)), (2, (pAt g1 0)), (3, (pAt g2 0)), (5, (pAt g3 0))] (Item.blk g21 48 [(tI 0), (tI 0), (tI 0), (tI 0), (tI 0), (Ty.val (.slice none 0 0))] :: Item.blk g3 27 [(tI a0.c.Params), (tI a0.c.Regs), (tL 5 Block.ty a0.c.Blocks)] :: Item.blk g2 76 [(tI a1.Reg), (tI a1.Reason), (tI a1.Block), (tI a1.Index), (tL 1 lI a1.Others)] :: Item.blk g1 127 [(tI a0.c.Params), (tI a0.c.Regs), (tL 5 Block.ty a0.c.Blocks), (Ty.val (.map (some g0)))] :: mapL g0 (tL 1 lIs) a0.l :: L)
      refine okL_stepU rfl (doesO_storeB (ps := [(tI y19.Instr.Op), (tI y19.Instr.A), (tI y19.Instr.B), (tI y19.Instr.C), (tI y19.Instr.N), (tL 1 lI y19.Args)]) 0 [(tI y19.Instr.Op), (tI y19.Instr.A), (tI y19.Instr.B), (tI y19.Instr.C), (tI y19.Instr.N), (tL 1 lI y19.Args)] (Item.blk g21 48 [(tI y19.Instr.Op), (tI y19.Instr.A), (tI y19.Instr.B), (tI y19.Instr.C), (tI y19.Instr.N), (tL 1 lI y19.Args)] :: Item.blk g3 27 [(tI a0.c.Params), (tI a0.c.Regs), (tL 5 Block.ty a0.c.Blocks)] :: Item.blk g2 76 [(tI a1.Reg), (tI a1.Reason), (tI a1.Block), (tI a1.Index), (tL 1 lI a1.Others)] :: Item.blk g1 127 [(tI a0.c.Params), (tI a0.c.Regs), (tL 5 Block.ty a0.c.Blocks), (Ty.val (.map (some g0)))] :: mapL g0 (tL 1 lIs) a0.l :: L) rfl rfl (part_agg _) Tryd.sizeOf48 rfl rfl rfl rfl ?_)
      refine okL_nil ?_
      refine okX_next ?_
      refine okC_seq ?_
      refine okC_seq ?_
      refine okC_region ?_
      refine okL_step 55 (pAt g21 0) rfl rfl (does_fieldAddrP 0 Tryd.underlying48 rfl Tryd.sizeOf46 rfl rfl) ?_
      refine okL_step 56 (pAt g21 0) rfl rfl (does_fieldAddrP 0 Tryd.underlying46 rfl Tryd.sizeOf3 rfl rfl) ?_
      refine okL_step 57 (tI y19.Instr.Op) rfl rfl (does_loadB1 Tryd.isAgg3 rfl 0 rfl rfl) ?_
      refine okL_step 58 (tB (y19.Instr.Op != 6)) rfl rfl (does_neq rfl rfl) ?_
      refine okL_nil ?_
      refine okX_next ?_
      refine okC_cond (b := (y19.Instr.Op != 6)) rfl (fun hb22 => ?_) (fun hb22 => ?_)
      · replace h := ct hb22 h
        refine okC_seq ?_
        refine okC_region ?_
        refine okL_step 4 (tB false) rfl rfl (does_assign rfl) ?_
        refine okL_nil ?_
        refine okX_next ?_
        refine okC_ret ?_
        refine okX_then_ret ?_
        obtain rfl := (smh h).symm
        refine okX_items [Item.blk g21 48 [(tI y19.Instr.Op), (tI y19.Instr.A), (tI y19.Instr.B), (tI y19.Instr.C), (tI y19.Instr.N), (tL 1 lI y19.Args)], Item.blk g3 27 [(tI a0.c.Params), (tI a0.c.Regs), (tL 5 Block.ty a0.c.Blocks)], Item.blk g2 76 [(tI a1.Reg), (tI a1.Reason), (tI a1.Block), (tI a1.Index), (tL 1 lI a1.Others)], Item.blk g1 127 [(tI a0.c.Params), (tI a0.c.Regs), (tL 5 Block.ty a0.c.Blocks), (Ty.val (.map (some g0)))]] (mapL g0 (tL 1 lIs) a0.l :: L) (pm 0 rfl (pm 0 rfl (pm 0 rfl (pm 0 rfl (pm 0 rfl (pr _)))))) ?_
        exact okX_ret1 () Tryd.results88 rfl rfl
      · replace h := cf hb22 h
        refine okC_skip ?_
        refine okX_next ?_
        obtain ⟨z25, h27, hz26⟩ := bs h
        refine okC_meet (X := (Bool × (List (Int × (List (List Int)))))) (fun x => z25 = x) (fun x : (Bool × (List (Int × (List (List Int))))) => [(4, (tB x.1))]) (fun x : (Bool × (List (Int × (List (List Int))))) => Item.blk g21 48 [(tI y19.Instr.Op), (tI y19.Instr.A), (tI y19.Instr.B), (tI y19.Instr.C), (tI y19.Instr.N), (tL 1 lI y19.Args)] :: Item.blk g3 27 [(tI a0.c.Params), (tI a0.c.Regs), (tL 5 Block.ty a0.c.Blocks)] :: Item.blk g2 76 [(tI a1.Reg), (tI a1.Reason), (tI a1.Block), (tI a1.Index), (tL 1 lI a1.Others)] :: Item.blk g1 127 [(tI a0.c.Params), (tI a0.c.Regs), (tL 5 Block.ty a0.c.Blocks), (Ty.val (.map (some g0)))] :: mapL g0 (tL 1 lIs) x.2 :: L) ?_ ?_
        · refine okC_cov [(2, (pAt g1 0)), (3, (pAt g2 0)), (6, (pAt g21 0))] (cc rfl (cc rfl (cc rfl cn))) ?_
          obtain ⟨r28, hc29, h27⟩ := bs h27
          refine okC_split r28 (fun hb30 => ?_) (fun hb30 => ?_)
          · replace h27 := ct hb30 h27
            refine okC_draw 22 [some (59, (pAt g21 5)), some (60, (tL 1 lI y19.Args)), some (61, (pAt g2 0)), some (62, (tI a1.Reg)), some (63, (tB r28)), some (64, (tB r28)), some (65, (Ty.val undef)), some (66, (Ty.val undef)), some (67, (Ty.val undef)), some (68, (Ty.val undef)), some (69, (Ty.val undef)), some (70, (Ty.val undef)), some (71, (Ty.val undef)), some (72, (Ty.val undef)), some (73, (Ty.val undef)), some (74, (Ty.val undef)), some (75, (Ty.val undef)), some (76, (Ty.val undef)), some (77, (Ty.val undef)), some (78, (Ty.val undef)), some (79, (Ty.val undef)), some (80, (Ty.val undef))] ⟨Item.blk g21 48 [(tI y19.Instr.Op), (tI y19.Instr.A), (tI y19.Instr.B), (tI y19.Instr.C), (tI y19.Instr.N), (tL 1 lI y19.Args)] :: Item.blk g3 27 [(tI a0.c.Params), (tI a0.c.Regs), (tL 5 Block.ty a0.c.Blocks)] :: Item.blk g2 76 [(tI a1.Reg), (tI a1.Reason), (tI a1.Block), (tI a1.Index), (tL 1 lI a1.Others)] :: Item.blk g1 127 [(tI a0.c.Params), (tI a0.c.Regs), (tL 5 Block.ty a0.c.Blocks), (Ty.val (.map (some g0)))] :: ([] : List Item), Item.blk g21 48 [(tI y19.Instr.Op), (tI y19.Instr.A), (tI y19.Instr.B), (tI y19.Instr.C), (tI y19.Instr.N), (tL 1 lI y19.Args)] :: Item.blk g3 27 [(tI a0.c.Params), (tI a0.c.Regs), (tL 5 Block.ty a0.c.Blocks)] :: Item.blk g2 76 [(tI a1.Reg), (tI a1.Reason), (tI a1.Block), (tI a1.Index), (tL 1 lI a1.Others)] :: Item.blk g1 127 [(tI a0.c.Params), (tI a0.c.Regs), (tL 5 Block.ty a0.c.Blocks), (Ty.val (.map (some g0)))] :: mapL g0 (tL 1 lIs) a0.l :: ([] : List Item), []⟩ [] mixed rfl rfl (by kernel_rfl) rfl (by kernel_rfl) rfl rfl rfl (fun _ h => List.Sublist.subset (.cons_cons _ (.cons_cons _ (.cons_cons _ (.cons_cons _ (List.nil_sublist _))))) h) (fun _ h => List.Sublist.subset (.cons_cons _ (.cons_cons _ (.cons_cons _ (.cons_cons _ (.cons_cons _ (List.nil_sublist _)))))) h) rfl (by kernel_rfl) (.inr ⟨by kernel_rfl, by kernel_rfl⟩) (by kernel_rfl) (by kernel_rfl) (dc (draw_plain rfl (does_fieldAddrP 5 Tryd.underlying48 rfl Tryd.sizeOf31 rfl rfl)) (dc (draw_plain rfl (does_loadB1 Tryd.isAgg31 rfl 0 rfl rfl)) (dc (draw_plain rfl (does_fieldAddrP 0 Tryd.underlying76 rfl Tryd.sizeOf3 rfl rfl)) (dc (draw_plain rfl (does_loadB1 Tryd.isAgg3 rfl 2 rfl rfl)) (dc (draw_plain rfl (does_call0 (c_alloccheck_contains K y19.Args a1.Reg r28 hc29) rfl Tryd.call112 rfl)) (dc (draw_plain rfl (does_move rfl)) (dc (draw_off 64 r28 rfl rfl rfl hb30) (dc (draw_off 64 r28 rfl rfl rfl hb30) (dc (draw_off 64 r28 rfl rfl rfl hb30) (dc (draw_off 64 r28 rfl rfl rfl hb30) (dc (draw_off 64 r28 rfl rfl rfl hb30) (dc (draw_off 64 r28 rfl rfl rfl hb30) (dc (draw_off 64 r28 rfl rfl rfl hb30) (dc (draw_offU 71 rfl rfl rfl) (dc (draw_offU 71 rfl rfl rfl) (dc (draw_offU 71 rfl rfl rfl) (dc (draw_offU 71 rfl rfl rfl) (dc (draw_offU 71 rfl rfl rfl) (dc (draw_offU 71 rfl rfl rfl) (dc (draw_offU 71 rfl rfl rfl) (dc (draw_offU 71 rfl rfl rfl) (dc (draw_offU 71 rfl rfl rfl) (dn))))))))))))))))))))))) ?_
            refine ch_end ?_
            change OkL _ _ _ _ [(59, (pAt g21 5)), (60, (tL 1 lI y19.Args)), (61, (pAt g2 0)), (62, (tI a1.Reg)), (63, (tB r28)), (64, (tB r28)), (65, (Ty.val undef)), (66, (Ty.val undef)), (67, (Ty.val undef)), (68, (Ty.val undef)), (69, (Ty.val undef)), (70, (Ty.val undef)), (71, (Ty.val undef)), (72, (Ty.val undef)), (73, (Ty.val undef)), (74, (Ty.val undef)), (75, (Ty.val undef)), (76, (Ty.val undef)), (77, (Ty.val undef)), (78, (Ty.val undef)), (79, (Ty.val undef)), (80, (Ty.val undef)), (2, (pAt g1 0)), (3, (pAt g2 0)), (6, (pAt g21 0))] (Item.blk g21 48 [(tI y19.Instr.Op), (tI y19.Instr.A), (tI y19.Instr.B), (tI y19.Instr.C), (tI y19.Instr.N), (tL 1 lI y19.Args)] :: Item.blk g3 27 [(tI a0.c.Params), (tI a0.c.Regs), (tL 5 Block.ty a0.c.Blocks)] :: Item.blk g2 76 [(tI a1.Reg), (tI a1.Reason), (tI a1.Block), (tI a1.Index), (tL 1 lI a1.Others)] :: Item.blk g1 127 [(tI a0.c.Params), (tI a0.c.Regs), (tL 5 Block.ty a0.c.Blocks), (Ty.val (.map (some g0)))] :: mapL g0 (tL 1 lIs) a0.l :: L)
            refine okL_skipU 81 71 rfl rfl rfl rfl ?_
            refine okL_skip 82 64 r28 rfl rfl hb30 rfl rfl ?_
            refine okL_step 83 (tB true) rfl rfl (does_pick_t r28 rfl hb30 rfl) ?_
            refine okL_step 4 (tB true) rfl rfl (does_assign rfl) ?_
            refine okL_nil ?_
            exact okX_meet (I := _) (true, a0.l) (smh h27) (cc rfl cn) rfl
          · replace h27 := cf hb30 h27
            refine okC_split (y19.Instr.A != a1.Reg) (fun hb31 => ?_) (fun hb31 => ?_)
            · replace h27 := ct hb31 h27
              obtain ⟨r32, hc33, h27⟩ := bs h27
              refine okC_draw 22 [some (59, (pAt g21 5)), some (60, (tL 1 lI y19.Args)), some (61, (pAt g2 0)), some (62, (tI a1.Reg)), some (63, (tB r28)), some (64, (tB r28)), some (65, (pAt g21 0)), some (66, (pAt g21 1)), some (67, (tI y19.Instr.A)), some (68, (pAt g2 0)), some (69, (tI a1.Reg)), some (70, (tB (y19.Instr.A != a1.Reg))), some (71, (tB (y19.Instr.A != a1.Reg))), some (72, (Ty.agg [(tI a0.c.Params), (tI a0.c.Regs), (tL 5 Block.ty a0.c.Blocks), (Ty.val (.map (some g0)))])), some (73, (pAt g2 2)), some (74, (tI a1.Block)), some (75, (pAt g2 3)), some (76, (tI a1.Index)), some (77, (tI (w64 (a1.Index + 1)))), none, some (79, (pAt g2 0)), some (80, (tI a1.Reg))] ⟨Item.blk g21 48 [(tI y19.Instr.Op), (tI y19.Instr.A), (tI y19.Instr.B), (tI y19.Instr.C), (tI y19.Instr.N), (tL 1 lI y19.Args)] :: Item.blk g3 27 [(tI a0.c.Params), (tI a0.c.Regs), (tL 5 Block.ty a0.c.Blocks)] :: Item.blk g2 76 [(tI a1.Reg), (tI a1.Reason), (tI a1.Block), (tI a1.Index), (tL 1 lI a1.Others)] :: Item.blk g1 127 [(tI a0.c.Params), (tI a0.c.Regs), (tL 5 Block.ty a0.c.Blocks), (Ty.val (.map (some g0)))] :: ([] : List Item), Item.blk g21 48 [(tI y19.Instr.Op), (tI y19.Instr.A), (tI y19.Instr.B), (tI y19.Instr.C), (tI y19.Instr.N), (tL 1 lI y19.Args)] :: Item.blk g3 27 [(tI a0.c.Params), (tI a0.c.Regs), (tL 5 Block.ty a0.c.Blocks)] :: Item.blk g2 76 [(tI a1.Reg), (tI a1.Reason), (tI a1.Block), (tI a1.Index), (tL 1 lI a1.Others)] :: Item.blk g1 127 [(tI a0.c.Params), (tI a0.c.Regs), (tL 5 Block.ty a0.c.Blocks), (Ty.val (.map (some g0)))] :: mapL g0 (tL 1 lIs) a0.l :: ([] : List Item), [19]⟩ [19] mixed rfl rfl (by kernel_rfl) rfl (by kernel_rfl) rfl rfl rfl (fun _ h => List.Sublist.subset (.cons_cons _ (.cons_cons _ (.cons_cons _ (.cons_cons _ (List.nil_sublist _))))) h) (fun _ h => List.Sublist.subset (.cons_cons _ (.cons_cons _ (.cons_cons _ (.cons_cons _ (.cons_cons _ (List.nil_sublist _)))))) h) rfl (by kernel_rfl) (.inr ⟨by kernel_rfl, by kernel_rfl⟩) (by kernel_rfl) (by kernel_rfl) (dc (draw_plain rfl (does_fieldAddrP 5 Tryd.underlying48 rfl Tryd.sizeOf31 rfl rfl)) (dc (draw_plain rfl (does_loadB1 Tryd.isAgg31 rfl 0 rfl rfl)) (dc (draw_plain rfl (does_fieldAddrP 0 Tryd.underlying76 rfl Tryd.sizeOf3 rfl rfl)) (dc (draw_plain rfl (does_loadB1 Tryd.isAgg3 rfl 2 rfl rfl)) (dc (draw_plain rfl (does_call0 (c_alloccheck_contains K y19.Args a1.Reg r28 hc29) rfl Tryd.call112 rfl)) (dc (draw_plain rfl (does_move rfl)) (dc (draw_on 64 r28 rfl rfl rfl hb30 (does_fieldAddrP 0 Tryd.underlying48 rfl Tryd.sizeOf46 rfl rfl)) (dc (draw_on 64 r28 rfl rfl rfl hb30 (does_fieldAddrP 1 Tryd.underlying46 rfl Tryd.sizeOf3 rfl rfl)) (dc (draw_on 64 r28 rfl rfl rfl hb30 (does_loadB1 Tryd.isAgg3 rfl 0 rfl rfl)) (dc (draw_on 64 r28 rfl rfl rfl hb30 (does_fieldAddrP 0 Tryd.underlying76 rfl Tryd.sizeOf3 rfl rfl)) (dc (draw_on 64 r28 rfl rfl rfl hb30 (does_loadB1 Tryd.isAgg3 rfl 2 rfl rfl)) (dc (draw_on 64 r28 rfl rfl rfl hb30 (does_neq rfl rfl)) (dc (draw_on 64 r28 rfl rfl rfl hb30 (does_move rfl)) (dc (draw_on 71 (y19.Instr.A != a1.Reg) rfl rfl rfl hb31 (does_loadBA [(tI a0.c.Params), (tI a0.c.Regs), (tL 5 Block.ty a0.c.Blocks), (Ty.val (.map (some g0)))] Tryd.isAgg127 Tryd.sizeOf127 rfl 3 rfl rfl rfl)) (dc (draw_on 71 (y19.Instr.A != a1.Reg) rfl rfl rfl hb31 (does_fieldAddrP 2 Tryd.underlying76 rfl Tryd.sizeOf3 rfl rfl)) (dc (draw_on 71 (y19.Instr.A != a1.Reg) rfl rfl rfl hb31 (does_loadB1 Tryd.isAgg3 rfl 2 rfl rfl)) (dc (draw_on 71 (y19.Instr.A != a1.Reg) rfl rfl rfl hb31 (does_fieldAddrP 3 Tryd.underlying76 rfl Tryd.sizeOf3 rfl rfl)) (dc (draw_on 71 (y19.Instr.A != a1.Reg) rfl rfl rfl hb31 (does_loadB1 Tryd.isAgg3 rfl 2 rfl rfl)) (dc (draw_on 71 (y19.Instr.A != a1.Reg) rfl rfl rfl hb31 (does_add rfl rfl)) (ds (dc (draw_on 71 (y19.Instr.A != a1.Reg) rfl rfl rfl hb31 (does_fieldAddrP 0 Tryd.underlying76 rfl Tryd.sizeOf3 rfl rfl)) (dc (draw_on 71 (y19.Instr.A != a1.Reg) rfl rfl rfl hb31 (does_loadB1 Tryd.isAgg3 rfl 2 rfl rfl)) (dn))))))))))))))))))))))) ?_
              refine ch_step [19] rfl (ap_cons (ch_atG _ 12 71 true (y19.Instr.A != a1.Reg) rfl rfl rfl rfl hb31 (doesO_call0 (Item.blk g21 48 [(tI y19.Instr.Op), (tI y19.Instr.A), (tI y19.Instr.B), (tI y19.Instr.C), (tI y19.Instr.N), (tL 1 lI y19.Args)] :: Item.blk g3 27 [(tI a0.c.Params), (tI a0.c.Regs), (tL 5 Block.ty a0.c.Blocks)] :: Item.blk g2 76 [(tI a1.Reg), (tI a1.Reason), (tI a1.Block), (tI a1.Index), (tL 1 lI a1.Others)] :: Item.blk g1 127 [(tI a0.c.Params), (tI a0.c.Regs), (tL 5 Block.ty a0.c.Blocks), (Ty.val (.map (some g0)))] :: L) (c_alloccheck_points_at K a0 a1.Block (w64 (a1.Index + 1)) g0 r32 hc33) rfl Tryd.call113 rfl (pm 4 rfl (pr _)) (fun _ => ?_))) (ap_nil))
              refine ⟨⟨(fun _ h => List.Sublist.subset (.cons _ (.cons_cons _ (.cons_cons _ (.cons_cons _ (.cons_cons _ (List.nil_sublist _)))))) h), .inl rfl⟩, ?_⟩
              refine ch_end ?_
              change OkL _ _ _ _ [(59, (pAt g21 5)), (60, (tL 1 lI y19.Args)), (61, (pAt g2 0)), (62, (tI a1.Reg)), (63, (tB r28)), (64, (tB r28)), (65, (pAt g21 0)), (66, (pAt g21 1)), (67, (tI y19.Instr.A)), (68, (pAt g2 0)), (69, (tI a1.Reg)), (70, (tB (y19.Instr.A != a1.Reg))), (71, (tB (y19.Instr.A != a1.Reg))), (72, (Ty.agg [(tI a0.c.Params), (tI a0.c.Regs), (tL 5 Block.ty a0.c.Blocks), (Ty.val (.map (some g0)))])), (73, (pAt g2 2)), (74, (tI a1.Block)), (75, (pAt g2 3)), (76, (tI a1.Index)), (77, (tI (w64 (a1.Index + 1)))), (79, (pAt g2 0)), (80, (tI a1.Reg)), (78, (tL 1 lI r32.1)), (2, (pAt g1 0)), (3, (pAt g2 0)), (6, (pAt g21 0))] (mapL g0 (tL 1 lIs) r32.2 :: Item.blk g21 48 [(tI y19.Instr.Op), (tI y19.Instr.A), (tI y19.Instr.B), (tI y19.Instr.C), (tI y19.Instr.N), (tL 1 lI y19.Args)] :: Item.blk g3 27 [(tI a0.c.Params), (tI a0.c.Regs), (tL 5 Block.ty a0.c.Blocks)] :: Item.blk g2 76 [(tI a1.Reg), (tI a1.Reason), (tI a1.Block), (tI a1.Index), (tL 1 lI a1.Others)] :: Item.blk g1 127 [(tI a0.c.Params), (tI a0.c.Regs), (tL 5 Block.ty a0.c.Blocks), (Ty.val (.map (some g0)))] :: L)
              obtain ⟨r34, hc35, h27⟩ := bs h27
              refine okL_guard 81 (tB r34) 71 (y19.Instr.A != a1.Reg) rfl rfl hb31 rfl rfl (does_call0 (c_alloccheck_contains K r32.1 a1.Reg r34 hc35) rfl Tryd.call112 rfl) ?_
              refine okL_guard 82 (tB r34) 64 r28 rfl rfl hb30 rfl rfl (does_pick_t (y19.Instr.A != a1.Reg) rfl hb31 rfl) ?_
              refine okL_step 83 (tB r34) rfl rfl (does_pick_f r28 rfl hb30 rfl) ?_
              refine okL_step 4 (tB r34) rfl rfl (does_assign rfl) ?_
              refine okL_nil ?_
              refine okX_items [] (Item.blk g21 48 [(tI y19.Instr.Op), (tI y19.Instr.A), (tI y19.Instr.B), (tI y19.Instr.C), (tI y19.Instr.N), (tL 1 lI y19.Args)] :: Item.blk g3 27 [(tI a0.c.Params), (tI a0.c.Regs), (tL 5 Block.ty a0.c.Blocks)] :: Item.blk g2 76 [(tI a1.Reg), (tI a1.Reason), (tI a1.Block), (tI a1.Index), (tL 1 lI a1.Others)] :: Item.blk g1 127 [(tI a0.c.Params), (tI a0.c.Regs), (tL 5 Block.ty a0.c.Blocks), (Ty.val (.map (some g0)))] :: mapL g0 (tL 1 lIs) r32.2 :: L) (pm 1 rfl (pm 1 rfl (pm 1 rfl (pm 1 rfl (pm 0 rfl (pr _)))))) ?_
              exact okX_meet (I := _) (r34, r32.2) (smh h27) (cc rfl cn) rfl
            · replace h27 := cf hb31 h27
              refine okC_draw 22 [some (59, (pAt g21 5)), some (60, (tL 1 lI y19.Args)), some (61, (pAt g2 0)), some (62, (tI a1.Reg)), some (63, (tB r28)), some (64, (tB r28)), some (65, (pAt g21 0)), some (66, (pAt g21 1)), some (67, (tI y19.Instr.A)), some (68, (pAt g2 0)), some (69, (tI a1.Reg)), some (70, (tB (y19.Instr.A != a1.Reg))), some (71, (tB (y19.Instr.A != a1.Reg))), some (72, (Ty.val undef)), some (73, (Ty.val undef)), some (74, (Ty.val undef)), some (75, (Ty.val undef)), some (76, (Ty.val undef)), some (77, (Ty.val undef)), some (78, (Ty.val undef)), some (79, (Ty.val undef)), some (80, (Ty.val undef))] ⟨Item.blk g21 48 [(tI y19.Instr.Op), (tI y19.Instr.A), (tI y19.Instr.B), (tI y19.Instr.C), (tI y19.Instr.N), (tL 1 lI y19.Args)] :: Item.blk g3 27 [(tI a0.c.Params), (tI a0.c.Regs), (tL 5 Block.ty a0.c.Blocks)] :: Item.blk g2 76 [(tI a1.Reg), (tI a1.Reason), (tI a1.Block), (tI a1.Index), (tL 1 lI a1.Others)] :: Item.blk g1 127 [(tI a0.c.Params), (tI a0.c.Regs), (tL 5 Block.ty a0.c.Blocks), (Ty.val (.map (some g0)))] :: ([] : List Item), Item.blk g21 48 [(tI y19.Instr.Op), (tI y19.Instr.A), (tI y19.Instr.B), (tI y19.Instr.C), (tI y19.Instr.N), (tL 1 lI y19.Args)] :: Item.blk g3 27 [(tI a0.c.Params), (tI a0.c.Regs), (tL 5 Block.ty a0.c.Blocks)] :: Item.blk g2 76 [(tI a1.Reg), (tI a1.Reason), (tI a1.Block), (tI a1.Index), (tL 1 lI a1.Others)] :: Item.blk g1 127 [(tI a0.c.Params), (tI a0.c.Regs), (tL 5 Block.ty a0.c.Blocks), (Ty.val (.map (some g0)))] :: mapL g0 (tL 1 lIs) a0.l :: ([] : List Item), []⟩ [] mixed rfl rfl (by kernel_rfl) rfl (by kernel_rfl) rfl rfl rfl (fun _ h => List.Sublist.subset (.cons_cons _ (.cons_cons _ (.cons_cons _ (.cons_cons _ (List.nil_sublist _))))) h) (fun _ h => List.Sublist.subset (.cons_cons _ (.cons_cons _ (.cons_cons _ (.cons_cons _ (.cons_cons _ (List.nil_sublist _)))))) h) rfl (by kernel_rfl) (.inr ⟨by kernel_rfl, by kernel_rfl⟩) (by kernel_rfl) (by kernel_rfl) (dc (draw_plain rfl (does_fieldAddrP 5 Tryd.underlying48 rfl Tryd.sizeOf31 rfl rfl)) (dc (draw_plain rfl (does_loadB1 Tryd.isAgg31 rfl 0 rfl rfl)) (dc (draw_plain rfl (does_fieldAddrP 0 Tryd.underlying76 rfl Tryd.sizeOf3 rfl rfl)) (dc (draw_plain rfl (does_loadB1 Tryd.isAgg3 rfl 2 rfl rfl)) (dc (draw_plain rfl (does_call0 (c_alloccheck_contains K y19.Args a1.Reg r28 hc29) rfl Tryd.call112 rfl)) (dc (draw_plain rfl (does_move rfl)) (dc (draw_on 64 r28 rfl rfl rfl hb30 (does_fieldAddrP 0 Tryd.underlying48 rfl Tryd.sizeOf46 rfl rfl)) (dc (draw_on 64 r28 rfl rfl rfl hb30 (does_fieldAddrP 1 Tryd.underlying46 rfl Tryd.sizeOf3 rfl rfl)) (dc (draw_on 64 r28 rfl rfl rfl hb30 (does_loadB1 Tryd.isAgg3 rfl 0 rfl rfl)) (dc (draw_on 64 r28 rfl rfl rfl hb30 (does_fieldAddrP 0 Tryd.underlying76 rfl Tryd.sizeOf3 rfl rfl)) (dc (draw_on 64 r28 rfl rfl rfl hb30 (does_loadB1 Tryd.isAgg3 rfl 2 rfl rfl)) (dc (draw_on 64 r28 rfl rfl rfl hb30 (does_neq rfl rfl)) (dc (draw_on 64 r28 rfl rfl rfl hb30 (does_move rfl)) (dc (draw_off 71 (y19.Instr.A != a1.Reg) rfl rfl rfl hb31) (dc (draw_off 71 (y19.Instr.A != a1.Reg) rfl rfl rfl hb31) (dc (draw_off 71 (y19.Instr.A != a1.Reg) rfl rfl rfl hb31) (dc (draw_off 71 (y19.Instr.A != a1.Reg) rfl rfl rfl hb31) (dc (draw_off 71 (y19.Instr.A != a1.Reg) rfl rfl rfl hb31) (dc (draw_off 71 (y19.Instr.A != a1.Reg) rfl rfl rfl hb31) (dc (draw_off 71 (y19.Instr.A != a1.Reg) rfl rfl rfl hb31) (dc (draw_off 71 (y19.Instr.A != a1.Reg) rfl rfl rfl hb31) (dc (draw_off 71 (y19.Instr.A != a1.Reg) rfl rfl rfl hb31) (dn))))))))))))))))))))))) ?_
              refine ch_end ?_
              change OkL _ _ _ _ [(59, (pAt g21 5)), (60, (tL 1 lI y19.Args)), (61, (pAt g2 0)), (62, (tI a1.Reg)), (63, (tB r28)), (64, (tB r28)), (65, (pAt g21 0)), (66, (pAt g21 1)), (67, (tI y19.Instr.A)), (68, (pAt g2 0)), (69, (tI a1.Reg)), (70, (tB (y19.Instr.A != a1.Reg))), (71, (tB (y19.Instr.A != a1.Reg))), (72, (Ty.val undef)), (73, (Ty.val undef)), (74, (Ty.val undef)), (75, (Ty.val undef)), (76, (Ty.val undef)), (77, (Ty.val undef)), (78, (Ty.val undef)), (79, (Ty.val undef)), (80, (Ty.val undef)), (2, (pAt g1 0)), (3, (pAt g2 0)), (6, (pAt g21 0))] (Item.blk g21 48 [(tI y19.Instr.Op), (tI y19.Instr.A), (tI y19.Instr.B), (tI y19.Instr.C), (tI y19.Instr.N), (tL 1 lI y19.Args)] :: Item.blk g3 27 [(tI a0.c.Params), (tI a0.c.Regs), (tL 5 Block.ty a0.c.Blocks)] :: Item.blk g2 76 [(tI a1.Reg), (tI a1.Reason), (tI a1.Block), (tI a1.Index), (tL 1 lI a1.Others)] :: Item.blk g1 127 [(tI a0.c.Params), (tI a0.c.Regs), (tL 5 Block.ty a0.c.Blocks), (Ty.val (.map (some g0)))] :: mapL g0 (tL 1 lIs) a0.l :: L)
              refine okL_skip 81 71 (y19.Instr.A != a1.Reg) rfl rfl hb31 rfl rfl ?_
              refine okL_guard 82 (tB false) 64 r28 rfl rfl hb30 rfl rfl (does_pick_f (y19.Instr.A != a1.Reg) rfl hb31 rfl) ?_
              refine okL_step 83 (tB false) rfl rfl (does_pick_f r28 rfl hb30 rfl) ?_
              refine okL_step 4 (tB false) rfl rfl (does_assign rfl) ?_
              refine okL_nil ?_
              exact okX_meet (I := _) (false, a0.l) (smh h27) (cc rfl cn) rfl
        · intro s23 hx
          change OkC _ _ _ [(4, (tB s23.1))] (Item.blk g21 48 [(tI y19.Instr.Op), (tI y19.Instr.A), (tI y19.Instr.B), (tI y19.Instr.C), (tI y19.Instr.N), (tL 1 lI y19.Args)] :: Item.blk g3 27 [(tI a0.c.Params), (tI a0.c.Regs), (tL 5 Block.ty a0.c.Blocks)] :: Item.blk g2 76 [(tI a1.Reg), (tI a1.Reason), (tI a1.Block), (tI a1.Index), (tL 1 lI a1.Others)] :: Item.blk g1 127 [(tI a0.c.Params), (tI a0.c.Regs), (tL 5 Block.ty a0.c.Blocks), (Ty.val (.map (some g0)))] :: mapL g0 (tL 1 lIs) s23.2 :: L)
          obtain rfl : s23 = z25 := hx.symm
          replace h := hz26
          refine okC_ret ?_
          obtain rfl := (smh h).symm
          refine okX_items [Item.blk g21 48 [(tI y19.Instr.Op), (tI y19.Instr.A), (tI y19.Instr.B), (tI y19.Instr.C), (tI y19.Instr.N), (tL 1 lI y19.Args)], Item.blk g3 27 [(tI a0.c.Params), (tI a0.c.Regs), (tL 5 Block.ty a0.c.Blocks)], Item.blk g2 76 [(tI a1.Reg), (tI a1.Reason), (tI a1.Block), (tI a1.Index), (tL 1 lI a1.Others)], Item.blk g1 127 [(tI a0.c.Params), (tI a0.c.Regs), (tL 5 Block.ty a0.c.Blocks), (Ty.val (.map (some g0)))]] (mapL g0 (tL 1 lIs) s23.2 :: L) (pm 0 rfl (pm 0 rfl (pm 0 rfl (pm 0 rfl (pm 0 rfl (pr _)))))) ?_
          exact okX_ret1 () Tryd.results88 rfl rfl

def alloccheck_pressure_l1 (K : Nat) (a1 : Spill) (a2 : (List Bool)) (r17 : (List Int) × (List (Int × (List (List Int))))) : Nat → Int → Option (Unit ⊕ (Bool × (List (Int × (List (List Int)))) × (List Bool)))
  | 0, _ => none
  | k + 1, s27 => (cnd (decide (s27 < ((a1.Others).length : Int))) (Option.bind (idx a1.Others s27) (fun y30 => (Option.bind (cnd (decide (s27 > 0)) (Option.bind (idx a1.Others (w64 (s27 - 1))) (fun y37 => (some (decide (y37 ≥ y30))))) (some false)) (fun x36 => (Option.bind (cnd (x36 || (y30 == a1.Reg)) (some true) (Option.bind (alloccheck_contains K r17.1 y30) (fun r45 => (some (!r45))))) (fun x44 => (Option.bind (cnd x44 (some true) (Option.bind (idx a2 y30) (fun y52 => (some y52)))) (fun x51 => (cnd x51 (out (some (false, r17.2, a2))) (alloccheck_pressure_l1 K a1 a2 r17 k (w64 (s27 + 1)))))))))))) (inn ()))

def alloccheck_pressure (K : Nat) (a0 : AlloccheckPoints) (a1 : Spill) (a2 : (List Bool)) : Option (Bool × (List (Int × (List (List Int)))) × (List Bool)) :=
  (Option.bind (cnd (decide (a1.Block < 0)) (some true) (cnd (decide (a1.Block ≥ ((a0.c.Blocks).length : Int))) (some true) (cnd (decide (a1.Index < 0)) (some true) (Option.bind (idx a0.c.Blocks a1.Block) (fun y12 => (some ((decide (a1.Index > ((y12.Instrs).length : Int))) || (decide (((a1.Others).length : Int) < 5))))))))) (fun s4 => (cnd s4 (some (false, a0.l, a2)) (Option.bind (alloccheck_points_at K a0 a1.Block a1.Index) (fun r17 => (Option.bind (alloccheck_contains K r17.1 a1.Reg) (fun r19 => (cnd (!r19) (some (false, r17.2, a2)) (sq (alloccheck_pressure_l1 K a1 a2 r17 K 0) (fun s22 => (some (true, r17.2, a2))))))))))))

theorem c_alloccheck_pressure (K : Nat) (a0 : AlloccheckPoints) (a1 : Spill) (a2 : (List Bool)) (g0 : Nat) (v2 : Value) (r : Bool × (List (Int × (List (List Int)))) × (List Bool)) (h : alloccheck_pressure K a0 a1 a2 = some r) : CallOk Tryd.prog glob 89 [(Ty.agg [(tI a0.c.Params), (tI a0.c.Regs), (tL 5 Block.ty a0.c.Blocks), (Ty.val (.map (some g0)))]), (Ty.agg [(tI a1.Reg), (tI a1.Reason), (tI a1.Block), (tI a1.Index), (tL 1 lI a1.Others)]), (Ty.own v2)] [mapL g0 (tL 1 lIs) a0.l, rowL v2 4 1 lB a2] Unit (fun _ : Unit => ((tB r.1), [mapL g0 (tL 1 lIs) r.2.1, rowL v2 4 1 lB r.2.2])) := by
  refine call_of_code Tryd.func89 rfl Tryd.ntmps89 rfl (fun L w => ?_)
  change OkC _ _ _ [(0, (Ty.agg [(tI a0.c.Params), (tI a0.c.Regs), (tL 5 Block.ty a0.c.Blocks), (Ty.val (.map (some g0)))])), (1, (Ty.agg [(tI a1.Reg), (tI a1.Reason), (tI a1.Block), (tI a1.Index), (tL 1 lI a1.Others)])), (2, (Ty.own v2))] (mapL g0 (tL 1 lIs) a0.l :: rowL v2 4 1 lB a2 :: L)
  unfold alloccheck_pressure at h
  refine okC_seq ?_
  refine okC_region ?_
  refine okL_stepO 3 rfl rfl (doesO_box [(tI a0.c.Params), (tI a0.c.Regs), (tL 5 Block.ty a0.c.Blocks), (Ty.val (.map (some g0)))] rfl (part_agg _) (fun g1 => ?_))
  refine okL_stepO 4 rfl rfl (doesO_box [(tI a1.Reg), (tI a1.Reason), (tI a1.Block), (tI a1.Index), (tL 1 lI a1.Others)] rfl (part_agg _) (fun g2 => ?_))
  refine okL_step 6 (tB false) rfl rfl (does_assign rfl) ?_
  refine okL_nil ?_
  refine okX_next ?_
  refine okC_seq ?_
  refine okC_region ?_
  refine okL_step 11 (pAt g1 0) rfl rfl (does_fieldAddrP 0 Tryd.underlying127 rfl Tryd.sizeOf27 rfl rfl) ?_
  refine okL_step 12 (Ty.agg [(tI a0.c.Params), (tI a0.c.Regs), (tL 5 Block.ty a0.c.Blocks)]) rfl rfl (does_loadBA [(tI a0.c.Params), (tI a0.c.Regs), (tL 5 Block.ty a0.c.Blocks)] Tryd.isAgg27 Tryd.sizeOf27 rfl 1 rfl rfl rfl) ?_
  refine okL_stepO 7 rfl rfl (doesO_alloc [(tI 0), (tI 0), (Ty.val (.slice none 0 0))] Tryd.zeroValue27 (part_of (sub_agg [(.int .i64 0), (.int .i64 0), (.slice none 0 0)] rfl) (part_agg _)) (fun g3 => ?_))
  refine okL_stepU rfl (doesO_storeB (ps := [(tI a0.c.Params), (tI a0.c.Regs), (tL 5 Block.ty a0.c.Blocks)]) 0 [(tI a0.c.Params), (tI a0.c.Regs), (tL 5 Block.ty a0.c.Blocks)] (Item.blk g3 27 [(tI a0.c.Params), (tI a0.c.Regs), (tL 5 Block.ty a0.c.Blocks)] :: Item.blk g2 76 [(tI a1.Reg), (tI a1.Reason), (tI a1.Block), (tI a1.Index), (tL 1 lI a1.Others)] :: Item.blk g1 127 [(tI a0.c.Params), (tI a0.c.Regs), (tL 5 Block.ty a0.c.Blocks), (Ty.val (.map (some g0)))] :: mapL g0 (tL 1 lIs) a0.l :: rowL v2 4 1 lB a2 :: L) rfl rfl (part_agg _) Tryd.sizeOf27 rfl rfl rfl rfl ?_)
  refine okL_nil ?_
  refine okX_next ?_
  refine okC_seq ?_
  obtain ⟨z6, h8, hz7⟩ := bs h
  refine okC_meet (X := Bool) (fun x => z6 = x) (fun x : Bool => [(2, (Ty.own v2)), (3, (pAt g1 0)), (4, (pAt g2 0)), (47, (tB x))]) (fun x : Bool => Item.blk g3 27 [(tI a0.c.Params), (tI a0.c.Regs), (tL 5 Block.ty a0.c.Blocks)] :: Item.blk g2 76 [(tI a1.Reg), (tI a1.Reason), (tI a1.Block), (tI a1.Index), (tL 1 lI a1.Others)] :: Item.blk g1 127 [(tI a0.c.Params), (tI a0.c.Regs), (tL 5 Block.ty a0.c.Blocks), (Ty.val (.map (some g0)))] :: mapL g0 (tL 1 lIs) a0.l :: rowL v2 4 1 lB a2 :: L) ?_ ?_
  · refine okC_cov [(2, (Ty.own v2)), (3, (pAt g1 0)), (4, (pAt g2 0)), (7, (pAt g3 0))] (cc rfl (cc rfl (cc rfl (cc rfl cn)))) ?_
    refine okC_split (decide (a1.Block < 0)) (fun hb9 => ?_) (fun hb9 => ?_)
    · replace h8 := ct hb9 h8
      refine okC_draw 27 [some (13, (pAt g2 2)), some (14, (tI a1.Block)), some (15, (tB (decide (a1.Block < 0)))), some (16, (tB (decide (a1.Block < 0)))), some (17, (Ty.val undef)), some (18, (Ty.val undef)), some (19, (Ty.val undef)), some (20, (Ty.val undef)), some (21, (Ty.val undef)), some (22, (Ty.val undef)), some (23, (tB true)), some (24, (tB true)), some (25, (Ty.val undef)), some (26, (Ty.val undef)), some (27, (Ty.val undef)), some (28, (tB true)), some (29, (tB true)), some (30, (Ty.val undef)), some (31, (Ty.val undef)), some (32, (Ty.val undef)), some (33, (Ty.val undef)), some (34, (Ty.val undef)), some (35, (Ty.val undef)), some (36, (Ty.val undef)), some (37, (Ty.val undef)), some (38, (Ty.val undef)), some (39, (Ty.val undef))] ⟨Item.blk g3 27 [(tI a0.c.Params), (tI a0.c.Regs), (tL 5 Block.ty a0.c.Blocks)] :: Item.blk g2 76 [(tI a1.Reg), (tI a1.Reason), (tI a1.Block), (tI a1.Index), (tL 1 lI a1.Others)] :: Item.blk g1 127 [(tI a0.c.Params), (tI a0.c.Regs), (tL 5 Block.ty a0.c.Blocks), (Ty.val (.map (some g0)))] :: mapL g0 (tL 1 lIs) a0.l :: rowL v2 4 1 lB a2 :: ([] : List Item), Item.blk g3 27 [(tI a0.c.Params), (tI a0.c.Regs), (tL 5 Block.ty a0.c.Blocks)] :: Item.blk g2 76 [(tI a1.Reg), (tI a1.Reason), (tI a1.Block), (tI a1.Index), (tL 1 lI a1.Others)] :: Item.blk g1 127 [(tI a0.c.Params), (tI a0.c.Regs), (tL 5 Block.ty a0.c.Blocks), (Ty.val (.map (some g0)))] :: mapL g0 (tL 1 lIs) a0.l :: rowL v2 4 1 lB a2 :: ([] : List Item), []⟩ [] mixed rfl rfl (by kernel_rfl) rfl (by kernel_rfl) rfl rfl rfl (fun _ h => List.Sublist.subset (.cons_cons _ (.cons_cons _ (.cons_cons _ (.cons_cons _ (.cons_cons _ (List.nil_sublist _)))))) h) (fun _ h => List.Sublist.subset (.cons_cons _ (.cons_cons _ (.cons_cons _ (.cons_cons _ (.cons_cons _ (List.nil_sublist _)))))) h) rfl (by kernel_rfl) (.inr ⟨by kernel_rfl, by kernel_rfl⟩) (by kernel_rfl) (by kernel_rfl) (dc (draw_plain rfl (does_fieldAddrP 2 Tryd.underlying76 rfl Tryd.sizeOf3 rfl rfl)) (dc (draw_plain rfl (does_loadB1 Tryd.isAgg3 rfl 1 rfl rfl)) (dc (draw_plain rfl (does_lss rfl rfl)) (dc (draw_plain rfl (does_move rfl)) (dc (draw_off 16 (decide (a1.Block < 0)) rfl rfl rfl hb9) (dc (draw_off 16 (decide (a1.Block < 0)) rfl rfl rfl hb9) (dc (draw_off 16 (decide (a1.Block < 0)) rfl rfl rfl hb9) (dc (draw_off 16 (decide (a1.Block < 0)) rfl rfl rfl hb9) (dc (draw_off 16 (decide (a1.Block < 0)) rfl rfl rfl hb9) (dc (draw_off 16 (decide (a1.Block < 0)) rfl rfl rfl hb9) (dc (draw_plain rfl (does_pick_t (decide (a1.Block < 0)) rfl hb9 rfl)) (dc (draw_plain rfl (does_move rfl)) (dc (draw_off 24 true rfl rfl rfl rfl) (dc (draw_off 24 true rfl rfl rfl rfl) (dc (draw_off 24 true rfl rfl rfl rfl) (dc (draw_plain rfl (does_pick_t true rfl rfl rfl)) (dc (draw_plain rfl (does_move rfl)) (dc (draw_off 29 true rfl rfl rfl rfl) (dc (draw_off 29 true rfl rfl rfl rfl) (dc (draw_off 29 true rfl rfl rfl rfl) (dc (draw_off 29 true rfl rfl rfl rfl) (dc (draw_off 29 true rfl rfl rfl rfl) (dc (draw_off 29 true rfl rfl rfl rfl) (dc (draw_off 29 true rfl rfl rfl rfl) (dc (draw_off 29 true rfl rfl rfl rfl) (dc (draw_off 29 true rfl rfl rfl rfl) (dc (draw_off 29 true rfl rfl rfl rfl) (dn)))))))))))))))))))))))))))) ?_
      refine ch_end ?_
      change OkL _ _ _ _ [(13, (pAt g2 2)), (14, (tI a1.Block)), (15, (tB (decide (a1.Block < 0)))), (16, (tB (decide (a1.Block < 0)))), (17, (Ty.val undef)), (18, (Ty.val undef)), (19, (Ty.val undef)), (20, (Ty.val undef)), (21, (Ty.val undef)), (22, (Ty.val undef)), (23, (tB true)), (24, (tB true)), (25, (Ty.val undef)), (26, (Ty.val undef)), (27, (Ty.val undef)), (28, (tB true)), (29, (tB true)), (30, (Ty.val undef)), (31, (Ty.val undef)), (32, (Ty.val undef)), (33, (Ty.val undef)), (34, (Ty.val undef)), (35, (Ty.val undef)), (36, (Ty.val undef)), (37, (Ty.val undef)), (38, (Ty.val undef)), (39, (Ty.val undef)), (2, (Ty.own v2)), (3, (pAt g1 0)), (4, (pAt g2 0)), (7, (pAt g3 0))] (Item.blk g3 27 [(tI a0.c.Params), (tI a0.c.Regs), (tL 5 Block.ty a0.c.Blocks)] :: Item.blk g2 76 [(tI a1.Reg), (tI a1.Reason), (tI a1.Block), (tI a1.Index), (tL 1 lI a1.Others)] :: Item.blk g1 127 [(tI a0.c.Params), (tI a0.c.Regs), (tL 5 Block.ty a0.c.Blocks), (Ty.val (.map (some g0)))] :: mapL g0 (tL 1 lIs) a0.l :: rowL v2 4 1 lB a2 :: L)
      refine okL_skip 40 29 true rfl rfl rfl rfl rfl ?_
      refine okL_step 41 (tB true) rfl rfl (does_pick_t true rfl rfl rfl) ?_
      refine okL_step 42 (tB true) rfl rfl (does_move rfl) ?_
      refine okL_skip 43 42 true rfl rfl rfl rfl rfl ?_
      refine okL_skip 44 42 true rfl rfl rfl rfl rfl ?_
      refine okL_skip 45 42 true rfl rfl rfl rfl rfl ?_
      refine okL_skip 46 42 true rfl rfl rfl rfl rfl ?_
      refine okL_step 47 (tB true) rfl rfl (does_pick_t true rfl rfl rfl) ?_
      refine okL_nil ?_
      exact okX_meet (I := _) true (smh h8) (cc rfl (cc rfl (cc rfl (cc rfl cn)))) rfl
    · replace h8 := cf hb9 h8
      refine okC_split (decide (a1.Block ≥ ((a0.c.Blocks).length : Int))) (fun hb10 => ?_) (fun hb10 => ?_)
      · replace h8 := ct hb10 h8
        refine okC_draw 27 [some (13, (pAt g2 2)), some (14, (tI a1.Block)), some (15, (tB (decide (a1.Block < 0)))), some (16, (tB (decide (a1.Block < 0)))), some (17, (pAt g2 2)), some (18, (tI a1.Block)), some (19, (pAt g3 2)), some (20, (tL 5 Block.ty a0.c.Blocks)), some (21, (tI ((a0.c.Blocks).length : Int))), some (22, (tB (decide (a1.Block ≥ ((a0.c.Blocks).length : Int))))), some (23, (tB (decide (a1.Block ≥ ((a0.c.Blocks).length : Int))))), some (24, (tB (decide (a1.Block ≥ ((a0.c.Blocks).length : Int))))), some (25, (Ty.val undef)), some (26, (Ty.val undef)), some (27, (Ty.val undef)), some (28, (tB true)), some (29, (tB true)), some (30, (Ty.val undef)), some (31, (Ty.val undef)), some (32, (Ty.val undef)), some (33, (Ty.val undef)), some (34, (Ty.val undef)), some (35, (Ty.val undef)), some (36, (Ty.val undef)), some (37, (Ty.val undef)), some (38, (Ty.val undef)), some (39, (Ty.val undef))] ⟨Item.blk g3 27 [(tI a0.c.Params), (tI a0.c.Regs), (tL 5 Block.ty a0.c.Blocks)] :: Item.blk g2 76 [(tI a1.Reg), (tI a1.Reason), (tI a1.Block), (tI a1.Index), (tL 1 lI a1.Others)] :: Item.blk g1 127 [(tI a0.c.Params), (tI a0.c.Regs), (tL 5 Block.ty a0.c.Blocks), (Ty.val (.map (some g0)))] :: mapL g0 (tL 1 lIs) a0.l :: rowL v2 4 1 lB a2 :: ([] : List Item), Item.blk g3 27 [(tI a0.c.Params), (tI a0.c.Regs), (tL 5 Block.ty a0.c.Blocks)] :: Item.blk g2 76 [(tI a1.Reg), (tI a1.Reason), (tI a1.Block), (tI a1.Index), (tL 1 lI a1.Others)] :: Item.blk g1 127 [(tI a0.c.Params), (tI a0.c.Regs), (tL 5 Block.ty a0.c.Blocks), (Ty.val (.map (some g0)))] :: mapL g0 (tL 1 lIs) a0.l :: rowL v2 4 1 lB a2 :: ([] : List Item), []⟩ [] mixed rfl rfl (by kernel_rfl) rfl (by kernel_rfl) rfl rfl rfl (fun _ h => List.Sublist.subset (.cons_cons _ (.cons_cons _ (.cons_cons _ (.cons_cons _ (.cons_cons _ (List.nil_sublist _)))))) h) (fun _ h => List.Sublist.subset (.cons_cons _ (.cons_cons _ (.cons_cons _ (.cons_cons _ (.cons_cons _ (List.nil_sublist _)))))) h) rfl (by kernel_rfl) (.inr ⟨by kernel_rfl, by kernel_rfl⟩) (by kernel_rfl) (by kernel_rfl) (dc (draw_plain rfl (does_fieldAddrP 2 Tryd.underlying76 rfl Tryd.sizeOf3 rfl rfl)) (dc (draw_plain rfl (does_loadB1 Tryd.isAgg3 rfl 1 rfl rfl)) (dc (draw_plain rfl (does_lss rfl rfl)) (dc (draw_plain rfl (does_move rfl)) (dc (draw_on 16 (decide (a1.Block < 0)) rfl rfl rfl hb9 (does_fieldAddrP 2 Tryd.underlying76 rfl Tryd.sizeOf3 rfl rfl)) (dc (draw_on 16 (decide (a1.Block < 0)) rfl rfl rfl hb9 (does_loadB1 Tryd.isAgg3 rfl 1 rfl rfl)) (dc (draw_on 16 (decide (a1.Block < 0)) rfl rfl rfl hb9 (does_fieldAddrP 2 Tryd.underlying27 rfl Tryd.sizeOf25 rfl rfl)) (dc (draw_on 16 (decide (a1.Block < 0)) rfl rfl rfl hb9 (does_loadB1 Tryd.isAgg25 rfl 0 rfl rfl)) (dc (draw_on 16 (decide (a1.Block < 0)) rfl rfl rfl hb9 (does_len (sz := 5) (f := Block.ty) (l := a0.c.Blocks) rfl Tryd.underlying25 rfl)) (dc (draw_on 16 (decide (a1.Block < 0)) rfl rfl rfl hb9 (does_geq rfl rfl)) (dc (draw_plain rfl (does_pick_f (decide (a1.Block < 0)) rfl hb9 rfl)) (dc (draw_plain rfl (does_move rfl)) (dc (draw_off 24 (decide (a1.Block ≥ ((a0.c.Blocks).length : Int))) rfl rfl rfl hb10) (dc (draw_off 24 (decide (a1.Block ≥ ((a0.c.Blocks).length : Int))) rfl rfl rfl hb10) (dc (draw_off 24 (decide (a1.Block ≥ ((a0.c.Blocks).length : Int))) rfl rfl rfl hb10) (dc (draw_plain rfl (does_pick_t (decide (a1.Block ≥ ((a0.c.Blocks).length : Int))) rfl hb10 rfl)) (dc (draw_plain rfl (does_move rfl)) (dc (draw_off 29 true rfl rfl rfl rfl) (dc (draw_off 29 true rfl rfl rfl rfl) (dc (draw_off 29 true rfl rfl rfl rfl) (dc (draw_off 29 true rfl rfl rfl rfl) (dc (draw_off 29 true rfl rfl rfl rfl) (dc (draw_off 29 true rfl rfl rfl rfl) (dc (draw_off 29 true rfl rfl rfl rfl) (dc (draw_off 29 true rfl rfl rfl rfl) (dc (draw_off 29 true rfl rfl rfl rfl) (dc (draw_off 29 true rfl rfl rfl rfl) (dn)))))))))))))))))))))))))))) ?_
        refine ch_end ?_
        change OkL _ _ _ _ [(13, (pAt g2 2)), (14, (tI a1.Block)), (15, (tB (decide (a1.Block < 0)))), (16, (tB (decide (a1.Block < 0)))), (17, (pAt g2 2)), (18, (tI a1.Block)), (19, (pAt g3 2)), (20, (tL 5 Block.ty a0.c.Blocks)), (21, (tI ((a0.c.Blocks).length : Int))), (22, (tB (decide (a1.Block ≥ ((a0.c.Blocks).length : Int))))), (23, (tB (decide (a1.Block ≥ ((a0.c.Blocks).length : Int))))), (24, (tB (decide (a1.Block ≥ ((a0.c.Blocks).length : Int))))), (25, (Ty.val undef)), (26, (Ty.val undef)), (27, (Ty.val undef)), (28, (tB true)), (29, (tB true)), (30, (Ty.val undef)), (31, (Ty.val undef)), (32, (Ty.val undef)), (33, (Ty.val undef)), (34, (Ty.val undef)), (35, (Ty.val undef)), (36, (Ty.val undef)), (37, (Ty.val undef)), (38, (Ty.val undef)), (39, (Ty.val undef)), (2, (Ty.own v2)), (3, (pAt g1 0)), (4, (pAt g2 0)), (7, (pAt g3 0))] (Item.blk g3 27 [(tI a0.c.Params), (tI a0.c.Regs), (tL 5 Block.ty a0.c.Blocks)] :: Item.blk g2 76 [(tI a1.Reg), (tI a1.Reason), (tI a1.Block), (tI a1.Index), (tL 1 lI a1.Others)] :: Item.blk g1 127 [(tI a0.c.Params), (tI a0.c.Regs), (tL 5 Block.ty a0.c.Blocks), (Ty.val (.map (some g0)))] :: mapL g0 (tL 1 lIs) a0.l :: rowL v2 4 1 lB a2 :: L)
        refine okL_skip 40 29 true rfl rfl rfl rfl rfl ?_
        refine okL_step 41 (tB true) rfl rfl (does_pick_t true rfl rfl rfl) ?_
        refine okL_step 42 (tB true) rfl rfl (does_move rfl) ?_
        refine okL_skip 43 42 true rfl rfl rfl rfl rfl ?_
        refine okL_skip 44 42 true rfl rfl rfl rfl rfl ?_
        refine okL_skip 45 42 true rfl rfl rfl rfl rfl ?_
        refine okL_skip 46 42 true rfl rfl rfl rfl rfl ?_
        refine okL_step 47 (tB true) rfl rfl (does_pick_t true rfl rfl rfl) ?_
        refine okL_nil ?_
        exact okX_meet (I := _) true (smh h8) (cc rfl (cc rfl (cc rfl (cc rfl cn)))) rfl
      · replace h8 := cf hb10 h8
        refine okC_split (decide (a1.Index < 0)) (fun hb11 => ?_) (fun hb11 => ?_)
        · replace h8 := ct hb11 h8
          refine okC_draw 27 [some (13, (pAt g2 2)), some (14, (tI a1.Block)), some (15, (tB (decide (a1.Block < 0)))), some (16, (tB (decide (a1.Block < 0)))), some (17, (pAt g2 2)), some (18, (tI a1.Block)), some (19, (pAt g3 2)), some (20, (tL 5 Block.ty a0.c.Blocks)), some (21, (tI ((a0.c.Blocks).length : Int))), some (22, (tB (decide (a1.Block ≥ ((a0.c.Blocks).length : Int))))), some (23, (tB (decide (a1.Block ≥ ((a0.c.Blocks).length : Int))))), some (24, (tB (decide (a1.Block ≥ ((a0.c.Blocks).length : Int))))), some (25, (pAt g2 3)), some (26, (tI a1.Index)), some (27, (tB (decide (a1.Index < 0)))), some (28, (tB (decide (a1.Index < 0)))), some (29, (tB (decide (a1.Index < 0)))), some (30, (Ty.val undef)), some (31, (Ty.val undef)), some (32, (Ty.val undef)), some (33, (Ty.val undef)), some (34, (Ty.val undef)), some (35, (Ty.val undef)), some (36, (Ty.val undef)), some (37, (Ty.val undef)), some (38, (Ty.val undef)), some (39, (Ty.val undef))] ⟨Item.blk g3 27 [(tI a0.c.Params), (tI a0.c.Regs), (tL 5 Block.ty a0.c.Blocks)] :: Item.blk g2 76 [(tI a1.Reg), (tI a1.Reason), (tI a1.Block), (tI a1.Index), (tL 1 lI a1.Others)] :: Item.blk g1 127 [(tI a0.c.Params), (tI a0.c.Regs), (tL 5 Block.ty a0.c.Blocks), (Ty.val (.map (some g0)))] :: mapL g0 (tL 1 lIs) a0.l :: rowL v2 4 1 lB a2 :: ([] : List Item), Item.blk g3 27 [(tI a0.c.Params), (tI a0.c.Regs), (tL 5 Block.ty a0.c.Blocks)] :: Item.blk g2 76 [(tI a1.Reg), (tI a1.Reason), (tI a1.Block), (tI a1.Index), (tL 1 lI a1.Others)] :: Item.blk g1 127 [(tI a0.c.Params), (tI a0.c.Regs), (tL 5 Block.ty a0.c.Blocks), (Ty.val (.map (some g0)))] :: mapL g0 (tL 1 lIs) a0.l :: rowL v2 4 1 lB a2 :: ([] : List Item), []⟩ [] mixed rfl rfl (by kernel_rfl) rfl (by kernel_rfl) rfl rfl rfl (fun _ h => List.Sublist.subset (.cons_cons _ (.cons_cons _ (.cons_cons _ (.cons_cons _ (.cons_cons _ (List.nil_sublist _)))))) h) (fun _ h => List.Sublist.subset (.cons_cons _ (.cons_cons _ (.cons_cons _ (.cons_cons _ (.cons_cons _ (List.nil_sublist _)))))) h) rfl (by kernel_rfl) (.inr ⟨by kernel_rfl, by kernel_rfl⟩) (by kernel_rfl) (by kernel_rfl) (dc (draw_plain rfl (does_fieldAddrP 2 Tryd.underlying76 rfl Tryd.sizeOf3 rfl rfl)) (dc (draw_plain rfl (does_loadB1 Tryd.isAgg3 rfl 1 rfl rfl)) (dc (draw_plain rfl (does_lss rfl rfl)) (dc (draw_plain rfl (does_move rfl)) (dc (draw_on 16 (decide (a1.Block < 0)) rfl rfl rfl hb9 (does_fieldAddrP 2 Tryd.underlying76 rfl Tryd.sizeOf3 rfl rfl)) (dc (draw_on 16 (decide (a1.Block < 0)) rfl rfl rfl hb9 (does_loadB1 Tryd.isAgg3 rfl 1 rfl rfl)) (dc (draw_on 16 (decide (a1.Block < 0)) rfl rfl rfl hb9 (does_fieldAddrP 2 Tryd.underlying27 rfl Tryd.sizeOf25 rfl rfl)) (dc (draw_on 16 (decide (a1.Block < 0)) rfl rfl rfl hb9 (does_loadB1 Tryd.isAgg25 rfl 0 rfl rfl)) (dc (draw_on 16 (decide (a1.Block < 0)) rfl rfl rfl hb9 (does_len (sz := 5) (f := Block.ty) (l := a0.c.Blocks) rfl Tryd.underlying25 rfl)) (dc (draw_on 16 (decide (a1.Block < 0)) rfl rfl rfl hb9 (does_geq rfl rfl)) (dc (draw_plain rfl (does_pick_f (decide (a1.Block < 0)) rfl hb9 rfl)) (dc (draw_plain rfl (does_move rfl)) (dc (draw_on 24 (decide (a1.Block ≥ ((a0.c.Blocks).length : Int))) rfl rfl rfl hb10 (does_fieldAddrP 3 Tryd.underlying76 rfl Tryd.sizeOf3 rfl rfl)) (dc (draw_on 24 (decide (a1.Block ≥ ((a0.c.Blocks).length : Int))) rfl rfl rfl hb10 (does_loadB1 Tryd.isAgg3 rfl 1 rfl rfl)) (dc (draw_on 24 (decide (a1.Block ≥ ((a0.c.Blocks).length : Int))) rfl rfl rfl hb10 (does_lss rfl rfl)) (dc (draw_plain rfl (does_pick_f (decide (a1.Block ≥ ((a0.c.Blocks).length : Int))) rfl hb10 rfl)) (dc (draw_plain rfl (does_move rfl)) (dc (draw_off 29 (decide (a1.Index < 0)) rfl rfl rfl hb11) (dc (draw_off 29 (decide (a1.Index < 0)) rfl rfl rfl hb11) (dc (draw_off 29 (decide (a1.Index < 0)) rfl rfl rfl hb11) (dc (draw_off 29 (decide (a1.Index < 0)) rfl rfl rfl hb11) (dc (draw_off 29 (decide (a1.Index < 0)) rfl rfl rfl hb11) (dc (draw_off 29 (decide (a1.Index < 0)) rfl rfl rfl hb11) (dc (draw_off 29 (decide (a1.Index < 0)) rfl rfl rfl hb11) (dc (draw_off 29 (decide (a1.Index < 0)) rfl rfl rfl hb11) (dc (draw_off 29 (decide (a1.Index < 0)) rfl rfl rfl hb11) (dc (draw_off 29 (decide (a1.Index < 0)) rfl rfl rfl hb11) (dn)))))))))))))))))))))))))))) ?_
          refine ch_end ?_
          change OkL _ _ _ _ [(13, (pAt g2 2)), (14, (tI a1.Block)), (15, (tB (decide (a1.Block < 0)))), (16, (tB (decide (a1.Block < 0)))), (17, (pAt g2 2)), (18, (tI a1.Block)), (19, (pAt g3 2)), (20, (tL 5 Block.ty a0.c.Blocks)), (21, (tI ((a0.c.Blocks).length : Int))), (22, (tB (decide (a1.Block ≥ ((a0.c.Blocks).length : Int))))), (23, (tB (decide (a1.Block ≥ ((a0.c.Blocks).length : Int))))), (24, (tB (decide (a1.Block ≥ ((a0.c.Blocks).length : Int))))), (25, (pAt g2 3)), (26, (tI a1.Index)), (27, (tB (decide (a1.Index < 0)))), (28, (tB (decide (a1.Index < 0)))), (29, (tB (decide (a1.Index < 0)))), (30, (Ty.val undef)), (31, (Ty.val undef)), (32, (Ty.val undef)), (33, (Ty.val undef)), (34, (Ty.val undef)), (35, (Ty.val undef)), (36, (Ty.val undef)), (37, (Ty.val undef)), (38, (Ty.val undef)), (39, (Ty.val undef)), (2, (Ty.own v2)), (3, (pAt g1 0)), (4, (pAt g2 0)), (7, (pAt g3 0))] (Item.blk g3 27 [(tI a0.c.Params), (tI a0.c.Regs), (tL 5 Block.ty a0.c.Blocks)] :: Item.blk g2 76 [(tI a1.Reg), (tI a1.Reason), (tI a1.Block), (tI a1.Index), (tL 1 lI a1.Others)] :: Item.blk g1 127 [(tI a0.c.Params), (tI a0.c.Regs), (tL 5 Block.ty a0.c.Blocks), (Ty.val (.map (some g0)))] :: mapL g0 (tL 1 lIs) a0.l :: rowL v2 4 1 lB a2 :: L)
          refine okL_skip 40 29 (decide (a1.Index < 0)) rfl rfl hb11 rfl rfl ?_
          refine okL_step 41 (tB true) rfl rfl (does_pick_t (decide (a1.Index < 0)) rfl hb11 rfl) ?_
          refine okL_step 42 (tB true) rfl rfl (does_move rfl) ?_
          refine okL_skip 43 42 true rfl rfl rfl rfl rfl ?_
          refine okL_skip 44 42 true rfl rfl rfl rfl rfl ?_
          refine okL_skip 45 42 true rfl rfl rfl rfl rfl ?_
          refine okL_skip 46 42 true rfl rfl rfl rfl rfl ?_
          refine okL_step 47 (tB true) rfl rfl (does_pick_t true rfl rfl rfl) ?_
          refine okL_nil ?_
          exact okX_meet (I := _) true (smh h8) (cc rfl (cc rfl (cc rfl (cc rfl cn)))) rfl
        · replace h8 := cf hb11 h8
          obtain ⟨y12, hi13, h8⟩ := bs h8
          refine okC_draw 27 [some (13, (pAt g2 2)), some (14, (tI a1.Block)), some (15, (tB (decide (a1.Block < 0)))), some (16, (tB (decide (a1.Block < 0)))), some (17, (pAt g2 2)), some (18, (tI a1.Block)), some (19, (pAt g3 2)), some (20, (tL 5 Block.ty a0.c.Blocks)), some (21, (tI ((a0.c.Blocks).length : Int))), some (22, (tB (decide (a1.Block ≥ ((a0.c.Blocks).length : Int))))), some (23, (tB (decide (a1.Block ≥ ((a0.c.Blocks).length : Int))))), some (24, (tB (decide (a1.Block ≥ ((a0.c.Blocks).length : Int))))), some (25, (pAt g2 3)), some (26, (tI a1.Index)), some (27, (tB (decide (a1.Index < 0)))), some (28, (tB (decide (a1.Index < 0)))), some (29, (tB (decide (a1.Index < 0)))), some (30, (pAt g2 3)), some (31, (tI a1.Index)), some (32, (pAt g3 2)), some (33, (tL 5 Block.ty a0.c.Blocks)), some (34, (pAt g2 2)), some (35, (tI a1.Block)), some (36, (Ty.ptr [(tL 6 VInstr.ty y12.Instrs), (tI y12.End), (tI y12.Reg), (tI y12.Target), (tI y12.Else)])), some (37, (Ty.ptr [(tL 6 VInstr.ty y12.Instrs), (tI y12.End), (tI y12.Reg), (tI y12.Target), (tI y12.Else)])), some (38, (tL 6 VInstr.ty y12.Instrs)), some (39, (tI ((y12.Instrs).length : Int)))] ⟨Item.blk g3 27 [(tI a0.c.Params), (tI a0.c.Regs), (tL 5 Block.ty a0.c.Blocks)] :: Item.blk g2 76 [(tI a1.Reg), (tI a1.Reason), (tI a1.Block), (tI a1.Index), (tL 1 lI a1.Others)] :: Item.blk g1 127 [(tI a0.c.Params), (tI a0.c.Regs), (tL 5 Block.ty a0.c.Blocks), (Ty.val (.map (some g0)))] :: mapL g0 (tL 1 lIs) a0.l :: rowL v2 4 1 lB a2 :: ([] : List Item), Item.blk g3 27 [(tI a0.c.Params), (tI a0.c.Regs), (tL 5 Block.ty a0.c.Blocks)] :: Item.blk g2 76 [(tI a1.Reg), (tI a1.Reason), (tI a1.Block), (tI a1.Index), (tL 1 lI a1.Others)] :: Item.blk g1 127 [(tI a0.c.Params), (tI a0.c.Regs), (tL 5 Block.ty a0.c.Blocks), (Ty.val (.map (some g0)))] :: mapL g0 (tL 1 lIs) a0.l :: rowL v2 4 1 lB a2 :: ([] : List Item), []⟩ [] mixed rfl rfl (by kernel_rfl) rfl (by kernel_rfl) rfl rfl rfl (fun _ h => List.Sublist.subset (.cons_cons _ (.cons_cons _ (.cons_cons _ (.cons_cons _ (.cons_cons _ (List.nil_sublist _)))))) h) (fun _ h => List.Sublist.subset (.cons_cons _ (.cons_cons _ (.cons_cons _ (.cons_cons _ (.cons_cons _ (List.nil_sublist _)))))) h) rfl (by kernel_rfl) (.inr ⟨by kernel_rfl, by kernel_rfl⟩) (by kernel_rfl) (by kernel_rfl) (dc (draw_plain rfl (does_fieldAddrP 2 Tryd.underlying76 rfl Tryd.sizeOf3 rfl rfl)) (dc (draw_plain rfl (does_loadB1 Tryd.isAgg3 rfl 1 rfl rfl)) (dc (draw_plain rfl (does_lss rfl rfl)) (dc (draw_plain rfl (does_move rfl)) (dc (draw_on 16 (decide (a1.Block < 0)) rfl rfl rfl hb9 (does_fieldAddrP 2 Tryd.underlying76 rfl Tryd.sizeOf3 rfl rfl)) (dc (draw_on 16 (decide (a1.Block < 0)) rfl rfl rfl hb9 (does_loadB1 Tryd.isAgg3 rfl 1 rfl rfl)) (dc (draw_on 16 (decide (a1.Block < 0)) rfl rfl rfl hb9 (does_fieldAddrP 2 Tryd.underlying27 rfl Tryd.sizeOf25 rfl rfl)) (dc (draw_on 16 (decide (a1.Block < 0)) rfl rfl rfl hb9 (does_loadB1 Tryd.isAgg25 rfl 0 rfl rfl)) (dc (draw_on 16 (decide (a1.Block < 0)) rfl rfl rfl hb9 (does_len (sz := 5) (f := Block.ty) (l := a0.c.Blocks) rfl Tryd.underlying25 rfl)) (dc (draw_on 16 (decide (a1.Block < 0)) rfl rfl rfl hb9 (does_geq rfl rfl)) (dc (draw_plain rfl (does_pick_f (decide (a1.Block < 0)) rfl hb9 rfl)) (dc (draw_plain rfl (does_move rfl)) (dc (draw_on 24 (decide (a1.Block ≥ ((a0.c.Blocks).length : Int))) rfl rfl rfl hb10 (does_fieldAddrP 3 Tryd.underlying76 rfl Tryd.sizeOf3 rfl rfl)) (dc (draw_on 24 (decide (a1.Block ≥ ((a0.c.Blocks).length : Int))) rfl rfl rfl hb10 (does_loadB1 Tryd.isAgg3 rfl 1 rfl rfl)) (dc (draw_on 24 (decide (a1.Block ≥ ((a0.c.Blocks).length : Int))) rfl rfl rfl hb10 (does_lss rfl rfl)) (dc (draw_plain rfl (does_pick_f (decide (a1.Block ≥ ((a0.c.Blocks).length : Int))) rfl hb10 rfl)) (dc (draw_plain rfl (does_move rfl)) (dc (draw_on 29 (decide (a1.Index < 0)) rfl rfl rfl hb11 (does_fieldAddrP 3 Tryd.underlying76 rfl Tryd.sizeOf3 rfl rfl)) (dc (draw_on 29 (decide (a1.Index < 0)) rfl rfl rfl hb11 (does_loadB1 Tryd.isAgg3 rfl 1 rfl rfl)) (dc (draw_on 29 (decide (a1.Index < 0)) rfl rfl rfl hb11 (does_fieldAddrP 2 Tryd.underlying27 rfl Tryd.sizeOf25 rfl rfl)) (dc (draw_on 29 (decide (a1.Index < 0)) rfl rfl rfl hb11 (does_loadB1 Tryd.isAgg25 rfl 0 rfl rfl)) (dc (draw_on 29 (decide (a1.Index < 0)) rfl rfl rfl hb11 (does_fieldAddrP 2 Tryd.underlying76 rfl Tryd.sizeOf3 rfl rfl)) (dc (draw_on 29 (decide (a1.Index < 0)) rfl rfl rfl hb11 (does_loadB1 Tryd.isAgg3 rfl 1 rfl rfl)) (dc (draw_on 29 (decide (a1.Index < 0)) rfl rfl rfl hb11 (does_index (sz := 5) (f := Block.ty) (l := a0.c.Blocks) (n := a1.Block) y12 Tryd.underlying25 Tryd.sizeOf43 hi13 rfl rfl)) (dc (draw_on 29 (decide (a1.Index < 0)) rfl rfl rfl hb11 (does_fieldAddr [(tL 6 VInstr.ty y12.Instrs), (tI y12.End), (tI y12.Reg), (tI y12.Target), (tI y12.Else)] Tryd.underlying43 rfl Tryd.sizeOf41 rfl rfl)) (dc (draw_on 29 (decide (a1.Index < 0)) rfl rfl rfl hb11 (does_load1 Tryd.isAgg41 rfl)) (dc (draw_on 29 (decide (a1.Index < 0)) rfl rfl rfl hb11 (does_len (sz := 6) (f := VInstr.ty) (l := y12.Instrs) rfl Tryd.underlying41 rfl)) (dn)))))))))))))))))))))))))))) ?_
          refine ch_end ?_
          change OkL _ _ _ _ [(13, (pAt g2 2)), (14, (tI a1.Block)), (15, (tB (decide (a1.Block < 0)))), (16, (tB (decide (a1.Block < 0)))), (17, (pAt g2 2)), (18, (tI a1.Block)), (19, (pAt g3 2)), (20, (tL 5 Block.ty a0.c.Blocks)), (21, (tI ((a0.c.Blocks).length : Int))), (22, (tB (decide (a1.Block ≥ ((a0.c.Blocks).length : Int))))), (23, (tB (decide (a1.Block ≥ ((a0.c.Blocks).length : Int))))), (24, (tB (decide (a1.Block ≥ ((a0.c.Blocks).length : Int))))), (25, (pAt g2 3)), (26, (tI a1.Index)), (27, (tB (decide (a1.Index < 0)))), (28, (tB (decide (a1.Index < 0)))), (29, (tB (decide (a1.Index < 0)))), (30, (pAt g2 3)), (31, (tI a1.Index)), (32, (pAt g3 2)), (33, (tL 5 Block.ty a0.c.Blocks)), (34, (pAt g2 2)), (35, (tI a1.Block)), (36, (Ty.ptr [(tL 6 VInstr.ty y12.Instrs), (tI y12.End), (tI y12.Reg), (tI y12.Target), (tI y12.Else)])), (37, (Ty.ptr [(tL 6 VInstr.ty y12.Instrs), (tI y12.End), (tI y12.Reg), (tI y12.Target), (tI y12.Else)])), (38, (tL 6 VInstr.ty y12.Instrs)), (39, (tI ((y12.Instrs).length : Int))), (2, (Ty.own v2)), (3, (pAt g1 0)), (4, (pAt g2 0)), (7, (pAt g3 0))] (Item.blk g3 27 [(tI a0.c.Params), (tI a0.c.Regs), (tL 5 Block.ty a0.c.Blocks)] :: Item.blk g2 76 [(tI a1.Reg), (tI a1.Reason), (tI a1.Block), (tI a1.Index), (tL 1 lI a1.Others)] :: Item.blk g1 127 [(tI a0.c.Params), (tI a0.c.Regs), (tL 5 Block.ty a0.c.Blocks), (Ty.val (.map (some g0)))] :: mapL g0 (tL 1 lIs) a0.l :: rowL v2 4 1 lB a2 :: L)
          refine okL_guard 40 (tB (decide (a1.Index > ((y12.Instrs).length : Int)))) 29 (decide (a1.Index < 0)) rfl rfl hb11 rfl rfl (does_gtr rfl rfl) ?_
          refine okL_step 41 (tB (decide (a1.Index > ((y12.Instrs).length : Int)))) rfl rfl (does_pick_f (decide (a1.Index < 0)) rfl hb11 rfl) ?_
          refine okL_step 42 (tB (decide (a1.Index > ((y12.Instrs).length : Int)))) rfl rfl (does_move rfl) ?_
          refine okL_meet (X := Bool) 5 (fun x => x = ((decide (a1.Index > ((y12.Instrs).length : Int))) || (decide (((a1.Others).length : Int) < 5)))) (fun x : Bool => [(2, (Ty.own v2)), (3, (pAt g1 0)), (4, (pAt g2 0)), (47, (tB x))]) (fun x : Bool => Item.blk g3 27 [(tI a0.c.Params), (tI a0.c.Regs), (tL 5 Block.ty a0.c.Blocks)] :: Item.blk g2 76 [(tI a1.Reg), (tI a1.Reason), (tI a1.Block), (tI a1.Index), (tL 1 lI a1.Others)] :: Item.blk g1 127 [(tI a0.c.Params), (tI a0.c.Regs), (tL 5 Block.ty a0.c.Blocks), (Ty.val (.map (some g0)))] :: mapL g0 (tL 1 lIs) a0.l :: rowL v2 4 1 lB a2 :: L) _ rfl ?_ ?_
          · refine okL_split (decide (a1.Index > ((y12.Instrs).length : Int))) (fun hb14 => ?_) (fun hb14 => ?_)
            · refine okL_skip 43 42 (decide (a1.Index > ((y12.Instrs).length : Int))) rfl rfl hb14 rfl rfl ?_
              refine okL_skip 44 42 (decide (a1.Index > ((y12.Instrs).length : Int))) rfl rfl hb14 rfl rfl ?_
              refine okL_skip 45 42 (decide (a1.Index > ((y12.Instrs).length : Int))) rfl rfl hb14 rfl rfl ?_
              refine okL_skip 46 42 (decide (a1.Index > ((y12.Instrs).length : Int))) rfl rfl hb14 rfl rfl ?_
              refine okL_step 47 (tB true) rfl rfl (does_pick_t (decide (a1.Index > ((y12.Instrs).length : Int))) rfl hb14 rfl) ?_
              refine okL_nil ?_
              exact okX_meet (I := _) true (or_t hb14) (cc rfl (cc rfl (cc rfl (cc rfl cn)))) rfl
            · refine okL_guard 43 (pAt g2 4) 42 (decide (a1.Index > ((y12.Instrs).length : Int))) rfl rfl hb14 rfl rfl (does_fieldAddrP 4 Tryd.underlying76 rfl Tryd.sizeOf31 rfl rfl) ?_
              refine okL_guard 44 (tL 1 lI a1.Others) 42 (decide (a1.Index > ((y12.Instrs).length : Int))) rfl rfl hb14 rfl rfl (does_loadB1 Tryd.isAgg31 rfl 1 rfl rfl) ?_
              refine okL_guard 45 (tI ((a1.Others).length : Int)) 42 (decide (a1.Index > ((y12.Instrs).length : Int))) rfl rfl hb14 rfl rfl (does_len (sz := 1) (f := lI) (l := a1.Others) rfl Tryd.underlying31 rfl) ?_
              refine okL_guard 46 (tB (decide (((a1.Others).length : Int) < 5))) 42 (decide (a1.Index > ((y12.Instrs).length : Int))) rfl rfl hb14 rfl rfl (does_lss rfl rfl) ?_
              refine okL_step 47 (tB (decide (((a1.Others).length : Int) < 5))) rfl rfl (does_pick_f (decide (a1.Index > ((y12.Instrs).length : Int))) rfl hb14 rfl) ?_
              refine okL_nil ?_
              exact okX_meet (I := _) (decide (((a1.Others).length : Int) < 5)) (or_f hb14) (cc rfl (cc rfl (cc rfl (cc rfl cn)))) rfl
          · intro x15 hx
            subst hx
            change OkL _ _ _ _ [(2, (Ty.own v2)), (3, (pAt g1 0)), (4, (pAt g2 0)), (47, (tB ((decide (a1.Index > ((y12.Instrs).length : Int))) || (decide (((a1.Others).length : Int) < 5)))))] (Item.blk g3 27 [(tI a0.c.Params), (tI a0.c.Regs), (tL 5 Block.ty a0.c.Blocks)] :: Item.blk g2 76 [(tI a1.Reg), (tI a1.Reason), (tI a1.Block), (tI a1.Index), (tL 1 lI a1.Others)] :: Item.blk g1 127 [(tI a0.c.Params), (tI a0.c.Regs), (tL 5 Block.ty a0.c.Blocks), (Ty.val (.map (some g0)))] :: mapL g0 (tL 1 lIs) a0.l :: rowL v2 4 1 lB a2 :: L)
            refine okL_nil ?_
            exact okX_meet (I := _) ((decide (a1.Index > ((y12.Instrs).length : Int))) || (decide (((a1.Others).length : Int) < 5))) (smh h8) (cc rfl (cc rfl (cc rfl (cc rfl cn)))) rfl
  · intro s4 hx
    change OkC _ _ _ [(2, (Ty.own v2)), (3, (pAt g1 0)), (4, (pAt g2 0)), (47, (tB s4))] (Item.blk g3 27 [(tI a0.c.Params), (tI a0.c.Regs), (tL 5 Block.ty a0.c.Blocks)] :: Item.blk g2 76 [(tI a1.Reg), (tI a1.Reason), (tI a1.Block), (tI a1.Index), (tL 1 lI a1.Others)] :: Item.blk g1 127 [(tI a0.c.Params), (tI a0.c.Regs), (tL 5 Block.ty a0.c.Blocks), (Ty.val (.map (some g0)))] :: mapL g0 (tL 1 lIs) a0.l :: rowL v2 4 1 lB a2 :: L)
    obtain rfl : s4 = z6 := hx.symm
    replace h := hz7
    refine okC_cond (b := s4) rfl (fun hb16 => ?_) (fun hb16 => ?_)
    · replace h := ct hb16 h
      refine okC_seq ?_
      refine okC_region ?_
      refine okL_step 6 (tB false) rfl rfl (does_assign rfl) ?_
      refine okL_nil ?_
      refine okX_next ?_
      refine okC_ret ?_
      refine okX_then_ret ?_
      obtain rfl := (smh h).symm
      refine okX_items [Item.blk g3 27 [(tI a0.c.Params), (tI a0.c.Regs), (tL 5 Block.ty a0.c.Blocks)], Item.blk g2 76 [(tI a1.Reg), (tI a1.Reason), (tI a1.Block), (tI a1.Index), (tL 1 lI a1.Others)], Item.blk g1 127 [(tI a0.c.Params), (tI a0.c.Regs), (tL 5 Block.ty a0.c.Blocks), (Ty.val (.map (some g0)))]] (mapL g0 (tL 1 lIs) a0.l :: rowL v2 4 1 lB a2 :: L) (pm 0 rfl (pm 0 rfl (pm 0 rfl (pm 0 rfl (pm 0 rfl (pr _)))))) ?_
      exact okX_ret1 () Tryd.results89 rfl rfl
    · replace h := cf hb16 h
      refine okC_skip ?_
      refine okX_next ?_
      refine okC_seq ?_
      refine okC_region ?_
      refine okL_step 48 (Ty.agg [(tI a0.c.Params), (tI a0.c.Regs), (tL 5 Block.ty a0.c.Blocks), (Ty.val (.map (some g0)))]) rfl rfl (does_loadBA [(tI a0.c.Params), (tI a0.c.Regs), (tL 5 Block.ty a0.c.Blocks), (Ty.val (.map (some g0)))] Tryd.isAgg127 Tryd.sizeOf127 rfl 2 rfl rfl rfl) ?_
      refine okL_step 49 (pAt g2 2) rfl rfl (does_fieldAddrP 2 Tryd.underlying76 rfl Tryd.sizeOf3 rfl rfl) ?_
      refine okL_step 50 (tI a1.Block) rfl rfl (does_loadB1 Tryd.isAgg3 rfl 1 rfl rfl) ?_
      refine okL_step 51 (pAt g2 3) rfl rfl (does_fieldAddrP 3 Tryd.underlying76 rfl Tryd.sizeOf3 rfl rfl) ?_
      refine okL_step 52 (tI a1.Index) rfl rfl (does_loadB1 Tryd.isAgg3 rfl 1 rfl rfl) ?_
      obtain ⟨r17, hc18, h⟩ := bs h
      refine okL_stepO 53 rfl rfl (doesO_call0 (Item.blk g3 27 [(tI a0.c.Params), (tI a0.c.Regs), (tL 5 Block.ty a0.c.Blocks)] :: Item.blk g2 76 [(tI a1.Reg), (tI a1.Reason), (tI a1.Block), (tI a1.Index), (tL 1 lI a1.Others)] :: Item.blk g1 127 [(tI a0.c.Params), (tI a0.c.Regs), (tL 5 Block.ty a0.c.Blocks), (Ty.val (.map (some g0)))] :: rowL v2 4 1 lB a2 :: L) (c_alloccheck_points_at K a0 a1.Block a1.Index g0 r17 hc18) rfl Tryd.call113 rfl (pm 3 rfl (pr _)) (fun _ => ?_))
      refine okL_step 8 (tL 1 lI r17.1) rfl rfl (does_assign rfl) ?_
      refine okL_nil ?_
      refine okX_next ?_
      refine okC_seq ?_
      refine okC_seq ?_
      refine okC_region ?_
      refine okL_step 54 (tL 1 lI r17.1) rfl rfl (does_move rfl) ?_
      refine okL_step 55 (pAt g2 0) rfl rfl (does_fieldAddrP 0 Tryd.underlying76 rfl Tryd.sizeOf3 rfl rfl) ?_
      refine okL_step 56 (tI a1.Reg) rfl rfl (does_loadB1 Tryd.isAgg3 rfl 2 rfl rfl) ?_
      obtain ⟨r19, hc20, h⟩ := bs h
      refine okL_step 57 (tB r19) rfl rfl (does_call0 (c_alloccheck_contains K r17.1 a1.Reg r19 hc20) rfl Tryd.call112 rfl) ?_
      refine okL_step 58 (tB (!r19)) rfl rfl (does_not rfl) ?_
      refine okL_nil ?_
      refine okX_next ?_
      refine okC_cond (b := (!r19)) rfl (fun hb21 => ?_) (fun hb21 => ?_)
      · replace h := ct hb21 h
        refine okC_seq ?_
        refine okC_region ?_
        refine okL_step 6 (tB false) rfl rfl (does_assign rfl) ?_
        refine okL_nil ?_
        refine okX_next ?_
        refine okC_ret ?_
        refine okX_then_ret ?_
        obtain rfl := (smh h).symm
        refine okX_items [Item.blk g3 27 [(tI a0.c.Params), (tI a0.c.Regs), (tL 5 Block.ty a0.c.Blocks)], Item.blk g2 76 [(tI a1.Reg), (tI a1.Reason), (tI a1.Block), (tI a1.Index), (tL 1 lI a1.Others)], Item.blk g1 127 [(tI a0.c.Params), (tI a0.c.Regs), (tL 5 Block.ty a0.c.Blocks), (Ty.val (.map (some g0)))]] (mapL g0 (tL 1 lIs) r17.2 :: rowL v2 4 1 lB a2 :: L) (pm 1 rfl (pm 1 rfl (pm 1 rfl (pm 0 rfl (pm 0 rfl (pr _)))))) ?_
        exact okX_ret1 () Tryd.results89 rfl rfl
      · replace h := cf hb21 h
        refine okC_skip ?_
        refine okX_next ?_
        refine okC_seq ?_
        refine okC_seq ?_
        refine okC_region ?_
        refine okL_step 59 (pAt g2 4) rfl rfl (does_fieldAddrP 4 Tryd.underlying76 rfl Tryd.sizeOf31 rfl rfl) ?_
        refine okL_step 60 (tL 1 lI a1.Others) rfl rfl (does_loadB1 Tryd.isAgg31 rfl 2 rfl rfl) ?_
        refine okL_step 61 (tI ((a1.Others).length : Int)) rfl rfl (does_len (sz := 1) (f := lI) (l := a1.Others) rfl Tryd.underlying31 rfl) ?_
        refine okL_step 62 (tI 0) rfl rfl (does_move rfl) ?_
        refine okL_nil ?_
        refine okX_next ?_
        obtain ⟨z24, h26, hz25⟩ := sqs h
        refine okC_meetE (X := Unit) (fun x => z24 = .inl x) (fun x : Unit => []) (fun x : Unit => mapL g0 (tL 1 lIs) r17.2 :: Item.blk g3 27 [(tI a0.c.Params), (tI a0.c.Regs), (tL 5 Block.ty a0.c.Blocks)] :: Item.blk g2 76 [(tI a1.Reg), (tI a1.Reason), (tI a1.Block), (tI a1.Index), (tL 1 lI a1.Others)] :: Item.blk g1 127 [(tI a0.c.Params), (tI a0.c.Regs), (tL 5 Block.ty a0.c.Blocks), (Ty.val (.map (some g0)))] :: rowL v2 4 1 lB a2 :: L) ?_ ?_
        · refine okC_block ?_
          refine okC_loop (X := Int) (fun k x => alloccheck_pressure_l1 K a1 a2 r17 k x = some z24) (fun x : Int => [(2, (Ty.own v2)), (4, (pAt g2 0)), (8, (tL 1 lI r17.1)), (60, (tL 1 lI a1.Others)), (61, (tI ((a1.Others).length : Int))), (62, (tI x))]) (fun x : Int => mapL g0 (tL 1 lIs) r17.2 :: Item.blk g3 27 [(tI a0.c.Params), (tI a0.c.Regs), (tL 5 Block.ty a0.c.Blocks)] :: Item.blk g2 76 [(tI a1.Reg), (tI a1.Reason), (tI a1.Block), (tI a1.Index), (tL 1 lI a1.Others)] :: Item.blk g1 127 [(tI a0.c.Params), (tI a0.c.Regs), (tL 5 Block.ty a0.c.Blocks), (Ty.val (.map (some g0)))] :: rowL v2 4 1 lB a2 :: L) K 0 h26 (cc rfl (cc rfl (cc rfl (cc rfl (cc rfl (cc rfl cn)))))) rfl (fun k s27 hI => ?_)
          change OkC _ _ _ [(2, (Ty.own v2)), (4, (pAt g2 0)), (8, (tL 1 lI r17.1)), (60, (tL 1 lI a1.Others)), (61, (tI ((a1.Others).length : Int))), (62, (tI s27))] (mapL g0 (tL 1 lIs) r17.2 :: Item.blk g3 27 [(tI a0.c.Params), (tI a0.c.Regs), (tL 5 Block.ty a0.c.Blocks)] :: Item.blk g2 76 [(tI a1.Reg), (tI a1.Reason), (tI a1.Block), (tI a1.Index), (tL 1 lI a1.Others)] :: Item.blk g1 127 [(tI a0.c.Params), (tI a0.c.Regs), (tL 5 Block.ty a0.c.Blocks), (Ty.val (.map (some g0)))] :: rowL v2 4 1 lB a2 :: L)
          cases k with
          | zero => exact (nz hI).elim
          | succ k =>
            have h : alloccheck_pressure_l1 K a1 a2 r17 (k + 1) s27 = some z24 := hI
            rw [alloccheck_pressure_l1.eq_2] at h
            refine okC_seq ?_
            refine okC_region ?_
            refine okL_step 63 (tB (decide (s27 < ((a1.Others).length : Int)))) rfl rfl (does_lss rfl rfl) ?_
            refine okL_nil ?_
            refine okX_next ?_
            refine okC_seq ?_
            refine okC_cond (b := (decide (s27 < ((a1.Others).length : Int)))) rfl (fun hb29 => ?_) (fun hb29 => ?_)
            · replace h := ct hb29 h
              refine okC_skip ?_
              refine okX_next ?_
              refine okC_seq ?_
              refine okC_block ?_
              refine okC_seq ?_
              refine okC_region ?_
              refine okL_step 64 (tI s27) rfl rfl (does_move rfl) ?_
              obtain ⟨y30, hi31, h⟩ := bs h
              refine okL_step 65 (Ty.ptr [(tI y30)]) rfl rfl (does_index (sz := 1) (f := lI) (l := a1.Others) (n := s27) y30 Tryd.underlying31 Tryd.sizeOf3 hi31 rfl rfl) ?_
              refine okL_step 66 (tI y30) rfl rfl (does_load1 Tryd.isAgg3 rfl) ?_
              refine okL_step 9 (tI s27) rfl rfl (does_assign rfl) ?_
              refine okL_step 10 (tI y30) rfl rfl (does_assign rfl) ?_
              refine okL_nil ?_
              refine okX_next ?_
              refine okC_seq ?_
              refine okC_region ?_
              refine okL_step 67 (tI s27) rfl rfl (does_move rfl) ?_
              refine okL_step 68 (tB (decide (s27 > 0))) rfl rfl (does_gtr rfl rfl) ?_
              refine okL_step 69 (tB (decide (s27 > 0))) rfl rfl (does_move rfl) ?_
              obtain ⟨z33, h35, hz34⟩ := bs h
              refine okL_meet (X := Bool) 9 (fun x => z33 = x) (fun x : Bool => [(2, (Ty.own v2)), (4, (pAt g2 0)), (8, (tL 1 lI r17.1)), (10, (tI y30)), (60, (tL 1 lI a1.Others)), (61, (tI ((a1.Others).length : Int))), (62, (tI s27)), (78, (tB x))]) (fun x : Bool => mapL g0 (tL 1 lIs) r17.2 :: Item.blk g3 27 [(tI a0.c.Params), (tI a0.c.Regs), (tL 5 Block.ty a0.c.Blocks)] :: Item.blk g2 76 [(tI a1.Reg), (tI a1.Reason), (tI a1.Block), (tI a1.Index), (tL 1 lI a1.Others)] :: Item.blk g1 127 [(tI a0.c.Params), (tI a0.c.Regs), (tL 5 Block.ty a0.c.Blocks), (Ty.val (.map (some g0)))] :: rowL v2 4 1 lB a2 :: L) _ rfl ?_ ?_
              · refine okL_split (decide (s27 > 0)) (fun hb32 => ?_) (fun hb32 => ?_)
                · replace h35 := ct hb32 h35
                  refine okL_guard 70 (pAt g2 4) 69 (decide (s27 > 0)) rfl rfl hb32 rfl rfl (does_fieldAddrP 4 Tryd.underlying76 rfl Tryd.sizeOf31 rfl rfl) ?_
                  refine okL_guard 71 (tL 1 lI a1.Others) 69 (decide (s27 > 0)) rfl rfl hb32 rfl rfl (does_loadB1 Tryd.isAgg31 rfl 2 rfl rfl) ?_
                  refine okL_guard 72 (tI s27) 69 (decide (s27 > 0)) rfl rfl hb32 rfl rfl (does_move rfl) ?_
                  refine okL_guard 73 (tI (w64 (s27 - 1))) 69 (decide (s27 > 0)) rfl rfl hb32 rfl rfl (does_sub rfl rfl) ?_
                  obtain ⟨y37, hi38, h35⟩ := bs h35
                  refine okL_guard 74 (Ty.ptr [(tI y37)]) 69 (decide (s27 > 0)) rfl rfl hb32 rfl rfl (does_index (sz := 1) (f := lI) (l := a1.Others) (n := (w64 (s27 - 1))) y37 Tryd.underlying31 Tryd.sizeOf3 hi38 rfl rfl) ?_
                  refine okL_guard 75 (tI y37) 69 (decide (s27 > 0)) rfl rfl hb32 rfl rfl (does_load1 Tryd.isAgg3 rfl) ?_
                  refine okL_guard 76 (tI y30) 69 (decide (s27 > 0)) rfl rfl hb32 rfl rfl (does_move rfl) ?_
                  refine okL_guard 77 (tB (decide (y37 ≥ y30))) 69 (decide (s27 > 0)) rfl rfl hb32 rfl rfl (does_geq rfl rfl) ?_
                  refine okL_step 78 (tB (decide (y37 ≥ y30))) rfl rfl (does_pick_t (decide (s27 > 0)) rfl hb32 rfl) ?_
                  refine okL_nil ?_
                  exact okX_meet (I := _) (decide (y37 ≥ y30)) (smh h35) (cc rfl (cc rfl (cc rfl (cc rfl (cc rfl (cc rfl (cc rfl (cc rfl cn)))))))) rfl
                · replace h35 := cf hb32 h35
                  refine okL_skip 70 69 (decide (s27 > 0)) rfl rfl hb32 rfl rfl ?_
                  refine okL_skip 71 69 (decide (s27 > 0)) rfl rfl hb32 rfl rfl ?_
                  refine okL_skip 72 69 (decide (s27 > 0)) rfl rfl hb32 rfl rfl ?_
                  refine okL_skip 73 69 (decide (s27 > 0)) rfl rfl hb32 rfl rfl ?_
                  refine okL_skip 74 69 (decide (s27 > 0)) rfl rfl hb32 rfl rfl ?_
                  refine okL_skip 75 69 (decide (s27 > 0)) rfl rfl hb32 rfl rfl ?_
                  refine okL_skip 76 69 (decide (s27 > 0)) rfl rfl hb32 rfl rfl ?_
                  refine okL_skip 77 69 (decide (s27 > 0)) rfl rfl hb32 rfl rfl ?_
                  refine okL_step 78 (tB false) rfl rfl (does_pick_f (decide (s27 > 0)) rfl hb32 rfl) ?_
                  refine okL_nil ?_
                  exact okX_meet (I := _) false (smh h35) (cc rfl (cc rfl (cc rfl (cc rfl (cc rfl (cc rfl (cc rfl (cc rfl cn)))))))) rfl
              · intro x36 hx
                obtain rfl : x36 = z33 := hx.symm
                replace h := hz34
                change OkL _ _ _ _ [(2, (Ty.own v2)), (4, (pAt g2 0)), (8, (tL 1 lI r17.1)), (10, (tI y30)), (60, (tL 1 lI a1.Others)), (61, (tI ((a1.Others).length : Int))), (62, (tI s27)), (78, (tB x36))] (mapL g0 (tL 1 lIs) r17.2 :: Item.blk g3 27 [(tI a0.c.Params), (tI a0.c.Regs), (tL 5 Block.ty a0.c.Blocks)] :: Item.blk g2 76 [(tI a1.Reg), (tI a1.Reason), (tI a1.Block), (tI a1.Index), (tL 1 lI a1.Others)] :: Item.blk g1 127 [(tI a0.c.Params), (tI a0.c.Regs), (tL 5 Block.ty a0.c.Blocks), (Ty.val (.map (some g0)))] :: rowL v2 4 1 lB a2 :: L)
                refine okL_step 79 (tB x36) rfl rfl (does_move rfl) ?_
                refine okL_meet (X := Bool) 5 (fun x => x = (x36 || (y30 == a1.Reg))) (fun x : Bool => [(2, (Ty.own v2)), (4, (pAt g2 0)), (8, (tL 1 lI r17.1)), (10, (tI y30)), (60, (tL 1 lI a1.Others)), (61, (tI ((a1.Others).length : Int))), (62, (tI s27)), (84, (tB x))]) (fun x : Bool => mapL g0 (tL 1 lIs) r17.2 :: Item.blk g3 27 [(tI a0.c.Params), (tI a0.c.Regs), (tL 5 Block.ty a0.c.Blocks)] :: Item.blk g2 76 [(tI a1.Reg), (tI a1.Reason), (tI a1.Block), (tI a1.Index), (tL 1 lI a1.Others)] :: Item.blk g1 127 [(tI a0.c.Params), (tI a0.c.Regs), (tL 5 Block.ty a0.c.Blocks), (Ty.val (.map (some g0)))] :: rowL v2 4 1 lB a2 :: L) _ rfl ?_ ?_
                · refine okL_split x36 (fun hb39 => ?_) (fun hb39 => ?_)
                  · refine okL_skip 80 79 x36 rfl rfl hb39 rfl rfl ?_
                    refine okL_skip 81 79 x36 rfl rfl hb39 rfl rfl ?_
                    refine okL_skip 82 79 x36 rfl rfl hb39 rfl rfl ?_
                    refine okL_skip 83 79 x36 rfl rfl hb39 rfl rfl ?_
                    refine okL_step 84 (tB true) rfl rfl (does_pick_t x36 rfl hb39 rfl) ?_
                    refine okL_nil ?_
                    exact okX_meet (I := _) true (or_t hb39) (cc rfl (cc rfl (cc rfl (cc rfl (cc rfl (cc rfl (cc rfl (cc rfl cn)))))))) rfl
                  · refine okL_guard 80 (tI y30) 79 x36 rfl rfl hb39 rfl rfl (does_move rfl) ?_
                    refine okL_guard 81 (pAt g2 0) 79 x36 rfl rfl hb39 rfl rfl (does_fieldAddrP 0 Tryd.underlying76 rfl Tryd.sizeOf3 rfl rfl) ?_
                    refine okL_guard 82 (tI a1.Reg) 79 x36 rfl rfl hb39 rfl rfl (does_loadB1 Tryd.isAgg3 rfl 2 rfl rfl) ?_
                    refine okL_guard 83 (tB (y30 == a1.Reg)) 79 x36 rfl rfl hb39 rfl rfl (does_eql rfl rfl) ?_
                    refine okL_step 84 (tB (y30 == a1.Reg)) rfl rfl (does_pick_f x36 rfl hb39 rfl) ?_
                    refine okL_nil ?_
                    exact okX_meet (I := _) (y30 == a1.Reg) (or_f hb39) (cc rfl (cc rfl (cc rfl (cc rfl (cc rfl (cc rfl (cc rfl (cc rfl cn)))))))) rfl
                · intro x55 hx
                  subst hx
                  change OkL _ _ _ _ [(2, (Ty.own v2)), (4, (pAt g2 0)), (8, (tL 1 lI r17.1)), (10, (tI y30)), (60, (tL 1 lI a1.Others)), (61, (tI ((a1.Others).length : Int))), (62, (tI s27)), (84, (tB (x36 || (y30 == a1.Reg))))] (mapL g0 (tL 1 lIs) r17.2 :: Item.blk g3 27 [(tI a0.c.Params), (tI a0.c.Regs), (tL 5 Block.ty a0.c.Blocks)] :: Item.blk g2 76 [(tI a1.Reg), (tI a1.Reason), (tI a1.Block), (tI a1.Index), (tL 1 lI a1.Others)] :: Item.blk g1 127 [(tI a0.c.Params), (tI a0.c.Regs), (tL 5 Block.ty a0.c.Blocks), (Ty.val (.map (some g0)))] :: rowL v2 4 1 lB a2 :: L)
                  refine okL_step 85 (tB (x36 || (y30 == a1.Reg))) rfl rfl (does_move rfl) ?_
                  obtain ⟨z41, h43, hz42⟩ := bs h
                  refine okL_meet (X := Bool) 5 (fun x => z41 = x) (fun x : Bool => [(2, (Ty.own v2)), (4, (pAt g2 0)), (8, (tL 1 lI r17.1)), (10, (tI y30)), (60, (tL 1 lI a1.Others)), (61, (tI ((a1.Others).length : Int))), (62, (tI s27)), (90, (tB x))]) (fun x : Bool => mapL g0 (tL 1 lIs) r17.2 :: Item.blk g3 27 [(tI a0.c.Params), (tI a0.c.Regs), (tL 5 Block.ty a0.c.Blocks)] :: Item.blk g2 76 [(tI a1.Reg), (tI a1.Reason), (tI a1.Block), (tI a1.Index), (tL 1 lI a1.Others)] :: Item.blk g1 127 [(tI a0.c.Params), (tI a0.c.Regs), (tL 5 Block.ty a0.c.Blocks), (Ty.val (.map (some g0)))] :: rowL v2 4 1 lB a2 :: L) _ rfl ?_ ?_
                  · refine okL_split (x36 || (y30 == a1.Reg)) (fun hb40 => ?_) (fun hb40 => ?_)
                    · replace h43 := ct hb40 h43
                      refine okL_skip 86 85 (x36 || (y30 == a1.Reg)) rfl rfl hb40 rfl rfl ?_
                      refine okL_skip 87 85 (x36 || (y30 == a1.Reg)) rfl rfl hb40 rfl rfl ?_
                      refine okL_skip 88 85 (x36 || (y30 == a1.Reg)) rfl rfl hb40 rfl rfl ?_
                      refine okL_skip 89 85 (x36 || (y30 == a1.Reg)) rfl rfl hb40 rfl rfl ?_
                      refine okL_step 90 (tB true) rfl rfl (does_pick_t (x36 || (y30 == a1.Reg)) rfl hb40 rfl) ?_
                      refine okL_nil ?_
                      exact okX_meet (I := _) true (smh h43) (cc rfl (cc rfl (cc rfl (cc rfl (cc rfl (cc rfl (cc rfl (cc rfl cn)))))))) rfl
                    · replace h43 := cf hb40 h43
                      refine okL_guard 86 (tL 1 lI r17.1) 85 (x36 || (y30 == a1.Reg)) rfl rfl hb40 rfl rfl (does_move rfl) ?_
                      refine okL_guard 87 (tI y30) 85 (x36 || (y30 == a1.Reg)) rfl rfl hb40 rfl rfl (does_move rfl) ?_
                      obtain ⟨r45, hc46, h43⟩ := bs h43
                      refine okL_guard 88 (tB r45) 85 (x36 || (y30 == a1.Reg)) rfl rfl hb40 rfl rfl (does_call0 (c_alloccheck_contains K r17.1 y30 r45 hc46) rfl Tryd.call112 rfl) ?_
                      refine okL_guard 89 (tB (!r45)) 85 (x36 || (y30 == a1.Reg)) rfl rfl hb40 rfl rfl (does_not rfl) ?_
                      refine okL_step 90 (tB (!r45)) rfl rfl (does_pick_f (x36 || (y30 == a1.Reg)) rfl hb40 rfl) ?_
                      refine okL_nil ?_
                      exact okX_meet (I := _) (!r45) (smh h43) (cc rfl (cc rfl (cc rfl (cc rfl (cc rfl (cc rfl (cc rfl (cc rfl cn)))))))) rfl
                  · intro x44 hx
                    obtain rfl : x44 = z41 := hx.symm
                    replace h := hz42
                    change OkL _ _ _ _ [(2, (Ty.own v2)), (4, (pAt g2 0)), (8, (tL 1 lI r17.1)), (10, (tI y30)), (60, (tL 1 lI a1.Others)), (61, (tI ((a1.Others).length : Int))), (62, (tI s27)), (90, (tB x44))] (mapL g0 (tL 1 lIs) r17.2 :: Item.blk g3 27 [(tI a0.c.Params), (tI a0.c.Regs), (tL 5 Block.ty a0.c.Blocks)] :: Item.blk g2 76 [(tI a1.Reg), (tI a1.Reason), (tI a1.Block), (tI a1.Index), (tL 1 lI a1.Others)] :: Item.blk g1 127 [(tI a0.c.Params), (tI a0.c.Regs), (tL 5 Block.ty a0.c.Blocks), (Ty.val (.map (some g0)))] :: rowL v2 4 1 lB a2 :: L)
                    refine okL_step 91 (tB x44) rfl rfl (does_move rfl) ?_
                    obtain ⟨z48, h50, hz49⟩ := bs h
                    refine okL_meet (X := Bool) 5 (fun x => z48 = x) (fun x : Bool => [(2, (Ty.own v2)), (4, (pAt g2 0)), (8, (tL 1 lI r17.1)), (60, (tL 1 lI a1.Others)), (61, (tI ((a1.Others).length : Int))), (62, (tI s27)), (96, (tB x))]) (fun x : Bool => mapL g0 (tL 1 lIs) r17.2 :: Item.blk g3 27 [(tI a0.c.Params), (tI a0.c.Regs), (tL 5 Block.ty a0.c.Blocks)] :: Item.blk g2 76 [(tI a1.Reg), (tI a1.Reason), (tI a1.Block), (tI a1.Index), (tL 1 lI a1.Others)] :: Item.blk g1 127 [(tI a0.c.Params), (tI a0.c.Regs), (tL 5 Block.ty a0.c.Blocks), (Ty.val (.map (some g0)))] :: rowL v2 4 1 lB a2 :: L) _ rfl ?_ ?_
                    · refine okL_split x44 (fun hb47 => ?_) (fun hb47 => ?_)
                      · replace h50 := ct hb47 h50
                        refine okL_skip 92 91 x44 rfl rfl hb47 rfl rfl ?_
                        refine okL_skip 93 91 x44 rfl rfl hb47 rfl rfl ?_
                        refine okL_skip 94 91 x44 rfl rfl hb47 rfl rfl ?_
                        refine okL_skip 95 91 x44 rfl rfl hb47 rfl rfl ?_
                        refine okL_step 96 (tB true) rfl rfl (does_pick_t x44 rfl hb47 rfl) ?_
                        refine okL_nil ?_
                        exact okX_meet (I := _) true (smh h50) (cc rfl (cc rfl (cc rfl (cc rfl (cc rfl (cc rfl (cc rfl cn))))))) rfl
                      · replace h50 := cf hb47 h50
                        refine okL_guard 92 (Ty.own v2) 91 x44 rfl rfl hb47 rfl rfl (does_move rfl) ?_
                        refine okL_guard 93 (tI y30) 91 x44 rfl rfl hb47 rfl rfl (does_move rfl) ?_
                        obtain ⟨y52, hi53, h50⟩ := bs h50
                        refine okL_guard 94 (Ty.rptr v2 (y30.toNat * 1)) 91 x44 rfl rfl hb47 rfl rfl (does_indexR (f := lB) (l := a2) (m := y30) el79 4 y52 hi53 rfl rfl rfl) ?_
                        refine okL_guard 95 (tB y52) 91 x44 rfl rfl hb47 rfl rfl (does_loadR1 (sz := 1) (f := lB) (l := a2) 4 y52 0 Tryd.isAgg4 hi53 rfl rfl rfl) ?_
                        refine okL_step 96 (tB y52) rfl rfl (does_pick_f x44 rfl hb47 rfl) ?_
                        refine okL_nil ?_
                        exact okX_meet (I := _) y52 (smh h50) (cc rfl (cc rfl (cc rfl (cc rfl (cc rfl (cc rfl (cc rfl cn))))))) rfl
                    · intro x51 hx
                      obtain rfl : x51 = z48 := hx.symm
                      replace h := hz49
                      change OkL _ _ _ _ [(2, (Ty.own v2)), (4, (pAt g2 0)), (8, (tL 1 lI r17.1)), (60, (tL 1 lI a1.Others)), (61, (tI ((a1.Others).length : Int))), (62, (tI s27)), (96, (tB x51))] (mapL g0 (tL 1 lIs) r17.2 :: Item.blk g3 27 [(tI a0.c.Params), (tI a0.c.Regs), (tL 5 Block.ty a0.c.Blocks)] :: Item.blk g2 76 [(tI a1.Reg), (tI a1.Reason), (tI a1.Block), (tI a1.Index), (tL 1 lI a1.Others)] :: Item.blk g1 127 [(tI a0.c.Params), (tI a0.c.Regs), (tL 5 Block.ty a0.c.Blocks), (Ty.val (.map (some g0)))] :: rowL v2 4 1 lB a2 :: L)
                      refine okL_nil ?_
                      refine okX_next ?_
                      refine okC_cond (b := x51) rfl (fun hb54 => ?_) (fun hb54 => ?_)
                      · replace h := ct hb54 h
                        refine okC_seq ?_
                        refine okC_region ?_
                        refine okL_step 6 (tB false) rfl rfl (does_assign rfl) ?_
                        refine okL_nil ?_
                        refine okX_next ?_
                        refine okC_ret ?_
                        refine okX_block_ret ?_
                        refine okX_then_ret ?_
                        refine okX_again_ret ?_
                        refine okX_block_ret ?_
                        refine okX_meet_ret ?_
                        replace h := outh h hz25
                        refine okX_then_ret ?_
                        obtain rfl := (smh h).symm
                        refine okX_items [Item.blk g3 27 [(tI a0.c.Params), (tI a0.c.Regs), (tL 5 Block.ty a0.c.Blocks)], Item.blk g2 76 [(tI a1.Reg), (tI a1.Reason), (tI a1.Block), (tI a1.Index), (tL 1 lI a1.Others)], Item.blk g1 127 [(tI a0.c.Params), (tI a0.c.Regs), (tL 5 Block.ty a0.c.Blocks), (Ty.val (.map (some g0)))]] (mapL g0 (tL 1 lIs) r17.2 :: rowL v2 4 1 lB a2 :: L) (pm 1 rfl (pm 1 rfl (pm 1 rfl (pm 0 rfl (pm 0 rfl (pr _)))))) ?_
                        exact okX_ret1 () Tryd.results89 rfl rfl
                      · replace h := cf hb54 h
                        refine okC_skip ?_
                        refine okX_block_normal ?_
                        refine okX_next ?_
                        refine okC_region ?_
                        refine okL_step 97 (tI (w64 (s27 + 1))) rfl rfl (does_add rfl rfl) ?_
                        refine okL_step 62 (tI (w64 (s27 + 1))) rfl rfl (does_move rfl) ?_
                        refine okL_nil ?_
                        exact okX_again k (Nat.lt_succ_self k) (w64 (s27 + 1)) h (cc rfl (cc rfl (cc rfl (cc rfl (cc rfl (cc rfl cn)))))) rfl
            · replace h := cf hb29 h
              refine okC_exit ?_
              refine okX_then_exit ?_
              refine okX_again_exit ?_
              refine okX_block_hit ?_
              exact okX_meet (I := _) () (innh h) cn rfl
        · intro s22 hx
          change OkX _ _ _ [] (mapL g0 (tL 1 lIs) r17.2 :: Item.blk g3 27 [(tI a0.c.Params), (tI a0.c.Regs), (tL 5 Block.ty a0.c.Blocks)] :: Item.blk g2 76 [(tI a1.Reg), (tI a1.Reason), (tI a1.Block), (tI a1.Index), (tL 1 lI a1.Others)] :: Item.blk g1 127 [(tI a0.c.Params), (tI a0.c.Regs), (tL 5 Block.ty a0.c.Blocks), (Ty.val (.map (some g0)))] :: rowL v2 4 1 lB a2 :: L)
          have hx : z24 = .inl s22 := hx
          subst hx
          replace h := hz25
          refine okX_next ?_
          refine okC_seq ?_
          refine okC_region ?_
          refine okL_step 6 (tB true) rfl rfl (does_assign rfl) ?_
          refine okL_nil ?_
          refine okX_next ?_
          refine okC_ret ?_
          obtain rfl := (smh h).symm
          refine okX_items [Item.blk g3 27 [(tI a0.c.Params), (tI a0.c.Regs), (tL 5 Block.ty a0.c.Blocks)], Item.blk g2 76 [(tI a1.Reg), (tI a1.Reason), (tI a1.Block), (tI a1.Index), (tL 1 lI a1.Others)], Item.blk g1 127 [(tI a0.c.Params), (tI a0.c.Regs), (tL 5 Block.ty a0.c.Blocks), (Ty.val (.map (some g0)))]] (mapL g0 (tL 1 lIs) r17.2 :: rowL v2 4 1 lB a2 :: L) (pm 1 rfl (pm 1 rfl (pm 1 rfl (pm 0 rfl (pm 0 rfl (pr _)))))) ?_
          exact okX_ret1 () Tryd.results89 rfl rfl

def alloccheck_coloring_l1 (K : Nat) (a1 : Allocation) (a2 : Spill) (a3 : (List Int)) : Nat → Int → Option (Unit ⊕ Bool)
  | 0, _ => none
  | k + 1, s12 => (cnd (decide (s12 < ((a2.Others).length : Int))) (Option.bind (idx a2.Others s12) (fun y15 => (Option.bind (alloccheck_contains K a3 y15) (fun r17 => (Option.bind (cnd (!r17) (some true) (Option.bind (idx a1.Locations y15) (fun y24 => (some (!((y24.InSlot == false) && (y24.Index == s12))))))) (fun x23 => (cnd x23 (out (some false)) (alloccheck_coloring_l1 K a1 a2 a3 k (w64 (s12 + 1)))))))))) (inn ()))

def alloccheck_coloring (K : Nat) (a0 : VFunc) (a1 : Allocation) (a2 : Spill) (a3 : (List Int)) : Option Bool :=
  (cnd (((a2.Block != 0) || (a2.Index != 0)) || (((a2.Others).length : Int) != 5)) (some false) (sq (alloccheck_coloring_l1 K a1 a2 a3 K 0) (fun s7 => (some true))))

theorem c_alloccheck_coloring (K : Nat) (a0 : VFunc) (a1 : Allocation) (a2 : Spill) (a3 : (List Int)) (r : Bool) (h : alloccheck_coloring K a0 a1 a2 a3 = some r) : CallP Tryd.prog glob 90 [(Ty.agg [(tI a0.Params), (tI a0.Regs), (tL 5 Block.ty a0.Blocks)]), (Ty.agg [(tL 2 Location.ty a1.Locations), (tL 5 Spill.ty a1.Spills), (tI a1.Slots)]), (Ty.agg [(tI a2.Reg), (tI a2.Reason), (tI a2.Block), (tI a2.Index), (tL 1 lI a2.Others)]), (tL 1 lI a3)] (tB r) := by
  refine call_of_code Tryd.func90 rfl Tryd.ntmps90 rfl (fun L w => ?_)
  change OkC _ _ _ [(0, (Ty.agg [(tI a0.Params), (tI a0.Regs), (tL 5 Block.ty a0.Blocks)])), (1, (Ty.agg [(tL 2 Location.ty a1.Locations), (tL 5 Spill.ty a1.Spills), (tI a1.Slots)])), (2, (Ty.agg [(tI a2.Reg), (tI a2.Reason), (tI a2.Block), (tI a2.Index), (tL 1 lI a2.Others)])), (3, (tL 1 lI a3))] (L)
  unfold alloccheck_coloring at h
  refine okC_seq ?_
  refine okC_region ?_
  refine okL_stepO 4 rfl rfl (doesO_box [(tI a0.Params), (tI a0.Regs), (tL 5 Block.ty a0.Blocks)] rfl (part_agg _) (fun g1 => ?_))
  refine okL_stepO 5 rfl rfl (doesO_box [(tL 2 Location.ty a1.Locations), (tL 5 Spill.ty a1.Spills), (tI a1.Slots)] rfl (part_agg _) (fun g2 => ?_))
  refine okL_stepO 6 rfl rfl (doesO_box [(tI a2.Reg), (tI a2.Reason), (tI a2.Block), (tI a2.Index), (tL 1 lI a2.Others)] rfl (part_agg _) (fun g3 => ?_))
  refine okL_step 8 (tB false) rfl rfl (does_assign rfl) ?_
  refine okL_nil ?_
  refine okX_next ?_
  refine okC_seq ?_
  refine okC_seq ?_
  refine okC_region ?_
  refine okL_step 11 (pAt g3 2) rfl rfl (does_fieldAddrP 2 Tryd.underlying76 rfl Tryd.sizeOf3 rfl rfl) ?_
  refine okL_step 12 (tI a2.Block) rfl rfl (does_loadB1 Tryd.isAgg3 rfl 0 rfl rfl) ?_
  refine okL_step 13 (tB (a2.Block != 0)) rfl rfl (does_neq rfl rfl) ?_
  refine okL_step 14 (tB (a2.Block != 0)) rfl rfl (does_move rfl) ?_
  refine okL_meet (X := Bool) 4 (fun x => x = ((a2.Block != 0) || (a2.Index != 0))) (fun x : Bool => [(3, (tL 1 lI a3)), (5, (pAt g2 0)), (6, (pAt g3 0)), (18, (tB x))]) (fun x : Bool => Item.blk g3 76 [(tI a2.Reg), (tI a2.Reason), (tI a2.Block), (tI a2.Index), (tL 1 lI a2.Others)] :: Item.blk g2 66 [(tL 2 Location.ty a1.Locations), (tL 5 Spill.ty a1.Spills), (tI a1.Slots)] :: Item.blk g1 27 [(tI a0.Params), (tI a0.Regs), (tL 5 Block.ty a0.Blocks)] :: L) _ rfl ?_ ?_
  · refine okL_split (a2.Block != 0) (fun hb4 => ?_) (fun hb4 => ?_)
    · refine okL_skip 15 14 (a2.Block != 0) rfl rfl hb4 rfl rfl ?_
      refine okL_skip 16 14 (a2.Block != 0) rfl rfl hb4 rfl rfl ?_
      refine okL_skip 17 14 (a2.Block != 0) rfl rfl hb4 rfl rfl ?_
      refine okL_step 18 (tB true) rfl rfl (does_pick_t (a2.Block != 0) rfl hb4 rfl) ?_
      refine okL_nil ?_
      exact okX_meet (I := _) true (or_t hb4) (cc rfl (cc rfl (cc rfl (cc rfl cn)))) rfl
    · refine okL_guard 15 (pAt g3 3) 14 (a2.Block != 0) rfl rfl hb4 rfl rfl (does_fieldAddrP 3 Tryd.underlying76 rfl Tryd.sizeOf3 rfl rfl) ?_
      refine okL_guard 16 (tI a2.Index) 14 (a2.Block != 0) rfl rfl hb4 rfl rfl (does_loadB1 Tryd.isAgg3 rfl 0 rfl rfl) ?_
      refine okL_guard 17 (tB (a2.Index != 0)) 14 (a2.Block != 0) rfl rfl hb4 rfl rfl (does_neq rfl rfl) ?_
      refine okL_step 18 (tB (a2.Index != 0)) rfl rfl (does_pick_f (a2.Block != 0) rfl hb4 rfl) ?_
      refine okL_nil ?_
      exact okX_meet (I := _) (a2.Index != 0) (or_f hb4) (cc rfl (cc rfl (cc rfl (cc rfl cn)))) rfl
  · intro x28 hx
    subst hx
    change OkL _ _ _ _ [(3, (tL 1 lI a3)), (5, (pAt g2 0)), (6, (pAt g3 0)), (18, (tB ((a2.Block != 0) || (a2.Index != 0))))] (Item.blk g3 76 [(tI a2.Reg), (tI a2.Reason), (tI a2.Block), (tI a2.Index), (tL 1 lI a2.Others)] :: Item.blk g2 66 [(tL 2 Location.ty a1.Locations), (tL 5 Spill.ty a1.Spills), (tI a1.Slots)] :: Item.blk g1 27 [(tI a0.Params), (tI a0.Regs), (tL 5 Block.ty a0.Blocks)] :: L)
    refine okL_step 19 (tB ((a2.Block != 0) || (a2.Index != 0))) rfl rfl (does_move rfl) ?_
    refine okL_meet (X := Bool) 5 (fun x => x = (((a2.Block != 0) || (a2.Index != 0)) || (((a2.Others).length : Int) != 5))) (fun x : Bool => [(3, (tL 1 lI a3)), (5, (pAt g2 0)), (6, (pAt g3 0)), (24, (tB x))]) (fun x : Bool => Item.blk g3 76 [(tI a2.Reg), (tI a2.Reason), (tI a2.Block), (tI a2.Index), (tL 1 lI a2.Others)] :: Item.blk g2 66 [(tL 2 Location.ty a1.Locations), (tL 5 Spill.ty a1.Spills), (tI a1.Slots)] :: Item.blk g1 27 [(tI a0.Params), (tI a0.Regs), (tL 5 Block.ty a0.Blocks)] :: L) _ rfl ?_ ?_
    · refine okL_split ((a2.Block != 0) || (a2.Index != 0)) (fun hb5 => ?_) (fun hb5 => ?_)
      · refine okL_skip 20 19 ((a2.Block != 0) || (a2.Index != 0)) rfl rfl hb5 rfl rfl ?_
        refine okL_skip 21 19 ((a2.Block != 0) || (a2.Index != 0)) rfl rfl hb5 rfl rfl ?_
        refine okL_skip 22 19 ((a2.Block != 0) || (a2.Index != 0)) rfl rfl hb5 rfl rfl ?_
        refine okL_skip 23 19 ((a2.Block != 0) || (a2.Index != 0)) rfl rfl hb5 rfl rfl ?_
        refine okL_step 24 (tB true) rfl rfl (does_pick_t ((a2.Block != 0) || (a2.Index != 0)) rfl hb5 rfl) ?_
        refine okL_nil ?_
        exact okX_meet (I := _) true (or_t hb5) (cc rfl (cc rfl (cc rfl (cc rfl cn)))) rfl
      · refine okL_guard 20 (pAt g3 4) 19 ((a2.Block != 0) || (a2.Index != 0)) rfl rfl hb5 rfl rfl (does_fieldAddrP 4 Tryd.underlying76 rfl Tryd.sizeOf31 rfl rfl) ?_
        refine okL_guard 21 (tL 1 lI a2.Others) 19 ((a2.Block != 0) || (a2.Index != 0)) rfl rfl hb5 rfl rfl (does_loadB1 Tryd.isAgg31 rfl 0 rfl rfl) ?_
        refine okL_guard 22 (tI ((a2.Others).length : Int)) 19 ((a2.Block != 0) || (a2.Index != 0)) rfl rfl hb5 rfl rfl (does_len (sz := 1) (f := lI) (l := a2.Others) rfl Tryd.underlying31 rfl) ?_
        refine okL_guard 23 (tB (((a2.Others).length : Int) != 5)) 19 ((a2.Block != 0) || (a2.Index != 0)) rfl rfl hb5 rfl rfl (does_neq rfl rfl) ?_
        refine okL_step 24 (tB (((a2.Others).length : Int) != 5)) rfl rfl (does_pick_f ((a2.Block != 0) || (a2.Index != 0)) rfl hb5 rfl) ?_
        refine okL_nil ?_
        exact okX_meet (I := _) (((a2.Others).length : Int) != 5) (or_f hb5) (cc rfl (cc rfl (cc rfl (cc rfl cn)))) rfl
    · intro x27 hx
      subst hx
      change OkL _ _ _ _ [(3, (tL 1 lI a3)), (5, (pAt g2 0)), (6, (pAt g3 0)), (24, (tB (((a2.Block != 0) || (a2.Index != 0)) || (((a2.Others).length : Int) != 5))))] (Item.blk g3 76 [(tI a2.Reg), (tI a2.Reason), (tI a2.Block), (tI a2.Index), (tL 1 lI a2.Others)] :: Item.blk g2 66 [(tL 2 Location.ty a1.Locations), (tL 5 Spill.ty a1.Spills), (tI a1.Slots)] :: Item.blk g1 27 [(tI a0.Params), (tI a0.Regs), (tL 5 Block.ty a0.Blocks)] :: L)
      refine okL_nil ?_
      refine okX_next ?_
      refine okC_cond (b := (((a2.Block != 0) || (a2.Index != 0)) || (((a2.Others).length : Int) != 5))) rfl (fun hb6 => ?_) (fun hb6 => ?_)
      · replace h := ct hb6 h
        refine okC_seq ?_
        refine okC_region ?_
        refine okL_step 8 (tB false) rfl rfl (does_assign rfl) ?_
        refine okL_nil ?_
        refine okX_next ?_
        refine okC_ret ?_
        refine okX_then_ret ?_
        obtain rfl := (smh h).symm
        refine okX_items [Item.blk g3 76 [(tI a2.Reg), (tI a2.Reason), (tI a2.Block), (tI a2.Index), (tL 1 lI a2.Others)], Item.blk g2 66 [(tL 2 Location.ty a1.Locations), (tL 5 Spill.ty a1.Spills), (tI a1.Slots)], Item.blk g1 27 [(tI a0.Params), (tI a0.Regs), (tL 5 Block.ty a0.Blocks)]] (L) (pm 0 rfl (pm 0 rfl (pm 0 rfl (pr _)))) ?_
        exact okX_ret1 () Tryd.results90 rfl rfl
      · replace h := cf hb6 h
        refine okC_skip ?_
        refine okX_next ?_
        refine okC_seq ?_
        refine okC_seq ?_
        refine okC_region ?_
        refine okL_step 25 (pAt g3 4) rfl rfl (does_fieldAddrP 4 Tryd.underlying76 rfl Tryd.sizeOf31 rfl rfl) ?_
        refine okL_step 26 (tL 1 lI a2.Others) rfl rfl (does_loadB1 Tryd.isAgg31 rfl 0 rfl rfl) ?_
        refine okL_step 27 (tI ((a2.Others).length : Int)) rfl rfl (does_len (sz := 1) (f := lI) (l := a2.Others) rfl Tryd.underlying31 rfl) ?_
        refine okL_step 28 (tI 0) rfl rfl (does_move rfl) ?_
        refine okL_nil ?_
        refine okX_next ?_
        obtain ⟨z9, h11, hz10⟩ := sqs h
        refine okC_meetE (X := Unit) (fun x => z9 = .inl x) (fun x : Unit => []) (fun x : Unit => Item.blk g3 76 [(tI a2.Reg), (tI a2.Reason), (tI a2.Block), (tI a2.Index), (tL 1 lI a2.Others)] :: Item.blk g2 66 [(tL 2 Location.ty a1.Locations), (tL 5 Spill.ty a1.Spills), (tI a1.Slots)] :: Item.blk g1 27 [(tI a0.Params), (tI a0.Regs), (tL 5 Block.ty a0.Blocks)] :: L) ?_ ?_
        · refine okC_block ?_
          refine okC_loop (X := Int) (fun k x => alloccheck_coloring_l1 K a1 a2 a3 k x = some z9) (fun x : Int => [(3, (tL 1 lI a3)), (5, (pAt g2 0)), (26, (tL 1 lI a2.Others)), (27, (tI ((a2.Others).length : Int))), (28, (tI x))]) (fun x : Int => Item.blk g3 76 [(tI a2.Reg), (tI a2.Reason), (tI a2.Block), (tI a2.Index), (tL 1 lI a2.Others)] :: Item.blk g2 66 [(tL 2 Location.ty a1.Locations), (tL 5 Spill.ty a1.Spills), (tI a1.Slots)] :: Item.blk g1 27 [(tI a0.Params), (tI a0.Regs), (tL 5 Block.ty a0.Blocks)] :: L) K 0 h11 (cc rfl (cc rfl (cc rfl (cc rfl (cc rfl cn))))) rfl (fun k s12 hI => ?_)
          change OkC _ _ _ [(3, (tL 1 lI a3)), (5, (pAt g2 0)), (26, (tL 1 lI a2.Others)), (27, (tI ((a2.Others).length : Int))), (28, (tI s12))] (Item.blk g3 76 [(tI a2.Reg), (tI a2.Reason), (tI a2.Block), (tI a2.Index), (tL 1 lI a2.Others)] :: Item.blk g2 66 [(tL 2 Location.ty a1.Locations), (tL 5 Spill.ty a1.Spills), (tI a1.Slots)] :: Item.blk g1 27 [(tI a0.Params), (tI a0.Regs), (tL 5 Block.ty a0.Blocks)] :: L)
          cases k with
          | zero => exact (nz hI).elim
          | succ k =>
            have h : alloccheck_coloring_l1 K a1 a2 a3 (k + 1) s12 = some z9 := hI
            rw [alloccheck_coloring_l1.eq_2] at h
            refine okC_seq ?_
            refine okC_region ?_
            refine okL_step 29 (tB (decide (s12 < ((a2.Others).length : Int)))) rfl rfl (does_lss rfl rfl) ?_
            refine okL_nil ?_
            refine okX_next ?_
            refine okC_seq ?_
            refine okC_cond (b := (decide (s12 < ((a2.Others).length : Int)))) rfl (fun hb14 => ?_) (fun hb14 => ?_)
            · replace h := ct hb14 h
              refine okC_skip ?_
              refine okX_next ?_
              refine okC_seq ?_
              refine okC_block ?_
              refine okC_seq ?_
              refine okC_region ?_
              refine okL_step 30 (tI s12) rfl rfl (does_move rfl) ?_
              obtain ⟨y15, hi16, h⟩ := bs h
              refine okL_step 31 (Ty.ptr [(tI y15)]) rfl rfl (does_index (sz := 1) (f := lI) (l := a2.Others) (n := s12) y15 Tryd.underlying31 Tryd.sizeOf3 hi16 rfl rfl) ?_
              refine okL_step 32 (tI y15) rfl rfl (does_load1 Tryd.isAgg3 rfl) ?_
              refine okL_step 9 (tI s12) rfl rfl (does_assign rfl) ?_
              refine okL_step 10 (tI y15) rfl rfl (does_assign rfl) ?_
              refine okL_nil ?_
              refine okX_next ?_
              refine okC_seq ?_
              refine okC_region ?_
              refine okL_step 33 (tL 1 lI a3) rfl rfl (does_move rfl) ?_
              refine okL_step 34 (tI y15) rfl rfl (does_move rfl) ?_
              obtain ⟨r17, hc18, h⟩ := bs h
              refine okL_step 35 (tB r17) rfl rfl (does_call0 (c_alloccheck_contains K a3 y15 r17 hc18) rfl Tryd.call112 rfl) ?_
              refine okL_step 36 (tB (!r17)) rfl rfl (does_not rfl) ?_
              refine okL_step 37 (tB (!r17)) rfl rfl (does_move rfl) ?_
              obtain ⟨z20, h22, hz21⟩ := bs h
              refine okL_meet (X := Bool) 9 (fun x => z20 = x) (fun x : Bool => [(3, (tL 1 lI a3)), (5, (pAt g2 0)), (26, (tL 1 lI a2.Others)), (27, (tI ((a2.Others).length : Int))), (28, (tI s12)), (46, (tB x))]) (fun x : Bool => Item.blk g3 76 [(tI a2.Reg), (tI a2.Reason), (tI a2.Block), (tI a2.Index), (tL 1 lI a2.Others)] :: Item.blk g2 66 [(tL 2 Location.ty a1.Locations), (tL 5 Spill.ty a1.Spills), (tI a1.Slots)] :: Item.blk g1 27 [(tI a0.Params), (tI a0.Regs), (tL 5 Block.ty a0.Blocks)] :: L) _ rfl ?_ ?_
              · refine okL_split (!r17) (fun hb19 => ?_) (fun hb19 => ?_)
                · replace h22 := ct hb19 h22
                  refine okL_skip 38 37 (!r17) rfl rfl hb19 rfl rfl ?_
                  refine okL_skip 39 37 (!r17) rfl rfl hb19 rfl rfl ?_
                  refine okL_skip 40 37 (!r17) rfl rfl hb19 rfl rfl ?_
                  refine okL_skip 41 37 (!r17) rfl rfl hb19 rfl rfl ?_
                  refine okL_skip 42 37 (!r17) rfl rfl hb19 rfl rfl ?_
                  refine okL_skip 43 37 (!r17) rfl rfl hb19 rfl rfl ?_
                  refine okL_skip 44 37 (!r17) rfl rfl hb19 rfl rfl ?_
                  refine okL_skip 45 37 (!r17) rfl rfl hb19 rfl rfl ?_
                  refine okL_step 46 (tB true) rfl rfl (does_pick_t (!r17) rfl hb19 rfl) ?_
                  refine okL_nil ?_
                  exact okX_meet (I := _) true (smh h22) (cc rfl (cc rfl (cc rfl (cc rfl (cc rfl (cc rfl cn)))))) rfl
                · replace h22 := cf hb19 h22
                  refine okL_guard 38 (pAt g2 0) 37 (!r17) rfl rfl hb19 rfl rfl (does_fieldAddrP 0 Tryd.underlying66 rfl Tryd.sizeOf63 rfl rfl) ?_
                  refine okL_guard 39 (tL 2 Location.ty a1.Locations) 37 (!r17) rfl rfl hb19 rfl rfl (does_loadB1 Tryd.isAgg63 rfl 1 rfl rfl) ?_
                  refine okL_guard 40 (tI y15) 37 (!r17) rfl rfl hb19 rfl rfl (does_move rfl) ?_
                  obtain ⟨y24, hi25, h22⟩ := bs h22
                  refine okL_guard 41 (Ty.ptr [(tB y24.InSlot), (tI y24.Index)]) 37 (!r17) rfl rfl hb19 rfl rfl (does_index (sz := 2) (f := Location.ty) (l := a1.Locations) (n := y15) y24 Tryd.underlying63 Tryd.sizeOf72 hi25 rfl rfl) ?_
                  refine okL_guard 42 (Ty.agg [(tB y24.InSlot), (tI y24.Index)]) 37 (!r17) rfl rfl hb19 rfl rfl (does_loadA [(tB y24.InSlot), (tI y24.Index)] Tryd.isAgg72 Tryd.sizeOf72 rfl rfl rfl) ?_
                  refine okL_guard 43 (tI s12) 37 (!r17) rfl rfl hb19 rfl rfl (does_move rfl) ?_
                  refine okL_guard 44 (Ty.agg [(tB false), (tI s12)]) 37 (!r17) rfl rfl hb19 rfl rfl (does_build [(tB false), (tI s12)] Tryd.zeroValue72 Tryd.underlying72 (places72 _ Tryd.underlying72) rfl (fc [(tI s12)] 1 rfl (part_one (one_i _)) rfl rfl (fn_ rfl))) ?_
                  refine okL_guard 45 (tB (!((y24.InSlot == false) && (y24.Index == s12)))) 37 (!r17) rfl rfl hb19 rfl rfl (does_neqS [.b y24.InSlot, .i y24.Index] [.b false, .i s12] (!((y24.InSlot == false) && (y24.Index == s12))) Tryd.underlying72 sih72 egt72 (Fields.b Tryd.underlying4 (by decide) rfl Tryd.isAgg4 (Fields.i Tryd.underlying3 (by decide) rfl Tryd.isAgg3 Fields.nil)) rfl rfl (by simp only [eqs, Cell.eq, Bool.and_true]) rfl rfl) ?_
                  refine okL_step 46 (tB (!((y24.InSlot == false) && (y24.Index == s12)))) rfl rfl (does_pick_f (!r17) rfl hb19 rfl) ?_
                  refine okL_nil ?_
                  exact okX_meet (I := _) (!((y24.InSlot == false) && (y24.Index == s12))) (smh h22) (cc rfl (cc rfl (cc rfl (cc rfl (cc rfl (cc rfl cn)))))) rfl
              · intro x23 hx
                obtain rfl : x23 = z20 := hx.symm
                replace h := hz21
                change OkL _ _ _ _ [(3, (tL 1 lI a3)), (5, (pAt g2 0)), (26, (tL 1 lI a2.Others)), (27, (tI ((a2.Others).length : Int))), (28, (tI s12)), (46, (tB x23))] (Item.blk g3 76 [(tI a2.Reg), (tI a2.Reason), (tI a2.Block), (tI a2.Index), (tL 1 lI a2.Others)] :: Item.blk g2 66 [(tL 2 Location.ty a1.Locations), (tL 5 Spill.ty a1.Spills), (tI a1.Slots)] :: Item.blk g1 27 [(tI a0.Params), (tI a0.Regs), (tL 5 Block.ty a0.Blocks)] :: L)
                refine okL_nil ?_
                refine okX_next ?_
                refine okC_cond (b := x23) rfl (fun hb26 => ?_) (fun hb26 => ?_)
                · replace h := ct hb26 h
                  refine okC_seq ?_
                  refine okC_region ?_
                  refine okL_step 8 (tB false) rfl rfl (does_assign rfl) ?_
                  refine okL_nil ?_
                  refine okX_next ?_
                  refine okC_ret ?_
                  refine okX_block_ret ?_
                  refine okX_then_ret ?_
                  refine okX_again_ret ?_
                  refine okX_block_ret ?_
                  refine okX_meet_ret ?_
                  replace h := outh h hz10
                  refine okX_then_ret ?_
                  obtain rfl := (smh h).symm
                  refine okX_items [Item.blk g3 76 [(tI a2.Reg), (tI a2.Reason), (tI a2.Block), (tI a2.Index), (tL 1 lI a2.Others)], Item.blk g2 66 [(tL 2 Location.ty a1.Locations), (tL 5 Spill.ty a1.Spills), (tI a1.Slots)], Item.blk g1 27 [(tI a0.Params), (tI a0.Regs), (tL 5 Block.ty a0.Blocks)]] (L) (pm 0 rfl (pm 0 rfl (pm 0 rfl (pr _)))) ?_
                  exact okX_ret1 () Tryd.results90 rfl rfl
                · replace h := cf hb26 h
                  refine okC_skip ?_
                  refine okX_block_normal ?_
                  refine okX_next ?_
                  refine okC_region ?_
                  refine okL_step 47 (tI (w64 (s12 + 1))) rfl rfl (does_add rfl rfl) ?_
                  refine okL_step 28 (tI (w64 (s12 + 1))) rfl rfl (does_move rfl) ?_
                  refine okL_nil ?_
                  exact okX_again k (Nat.lt_succ_self k) (w64 (s12 + 1)) h (cc rfl (cc rfl (cc rfl (cc rfl (cc rfl cn))))) rfl
            · replace h := cf hb14 h
              refine okC_exit ?_
              refine okX_then_exit ?_
              refine okX_again_exit ?_
              refine okX_block_hit ?_
              exact okX_meet (I := _) () (innh h) cn rfl
        · intro s7 hx
          change OkX _ _ _ [] (Item.blk g3 76 [(tI a2.Reg), (tI a2.Reason), (tI a2.Block), (tI a2.Index), (tL 1 lI a2.Others)] :: Item.blk g2 66 [(tL 2 Location.ty a1.Locations), (tL 5 Spill.ty a1.Spills), (tI a1.Slots)] :: Item.blk g1 27 [(tI a0.Params), (tI a0.Regs), (tL 5 Block.ty a0.Blocks)] :: L)
          have hx : z9 = .inl s7 := hx
          subst hx
          replace h := hz10
          refine okX_next ?_
          refine okC_seq ?_
          refine okC_region ?_
          refine okL_step 8 (tB true) rfl rfl (does_assign rfl) ?_
          refine okL_nil ?_
          refine okX_next ?_
          refine okC_ret ?_
          obtain rfl := (smh h).symm
          refine okX_items [Item.blk g3 76 [(tI a2.Reg), (tI a2.Reason), (tI a2.Block), (tI a2.Index), (tL 1 lI a2.Others)], Item.blk g2 66 [(tL 2 Location.ty a1.Locations), (tL 5 Spill.ty a1.Spills), (tI a1.Slots)], Item.blk g1 27 [(tI a0.Params), (tI a0.Regs), (tL 5 Block.ty a0.Blocks)]] (L) (pm 0 rfl (pm 0 rfl (pm 0 rfl (pr _)))) ?_
          exact okX_ret1 () Tryd.results90 rfl rfl

end Go.Proofs.YtocfnpnnbmicmaaDoor.Tc
