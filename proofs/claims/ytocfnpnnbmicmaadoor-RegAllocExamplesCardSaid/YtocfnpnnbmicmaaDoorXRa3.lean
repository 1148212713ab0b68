/- Written by gen.py: for each Go function a pure Lean function, and that the Go code comes to what it says. -/
import Derived.Test.YtocfnpnnbmicmaaDoorXRa2
set_option linter.unusedVariables false
set_option maxRecDepth 8000
set_option maxHeartbeats 4000000
namespace Go.Proofs.YtocfnpnnbmicmaaDoor.Tc
open Go Go.RowKit

def regalloc_points_l3 (K : Nat) (r44 : (List Int)) : Nat → ((List Int) × Int) → Option (List Int)
  | 0, _ => none
  | k + 1, s51 => (cnd (decide (s51.2 < ((r44).length : Int))) (Option.bind (Option.bind (idx r44 s51.2) (fun y59 => (Option.bind (regalloc_contains K s51.1 y59) (fun r61 => (cnd r61 (Option.bind (regalloc_without K s51.1 y59) (fun r64 => (some r64))) (some s51.1)))))) (fun s54 => (regalloc_points_l3 K r44 k (s54, (w64 (s51.2 + 1)))))) (some s51.1))

def regalloc_points_l4 (K : Nat) (r68 : (List Int)) : Nat → ((List Int) × Int) → Option (List Int)
  | 0, _ => none
  | k + 1, s75 => (cnd (decide (s75.2 < ((r68).length : Int))) (Option.bind (idx r68 s75.2) (fun y78 => (Option.bind (regalloc_insert K s75.1 y78) (fun r80 => (regalloc_points_l4 K r68 k (r80, (w64 (s75.2 + 1)))))))) (some s75.1))

def regalloc_points_l2 (K : Nat) (y12 : Block) : Nat → ((List Int) × Int × (List (List Int))) → Option (List (List Int))
  | 0, _ => none
  | k + 1, s39 => (cnd (decide (s39.2.1 ≥ 0)) (Option.bind (idx y12.Instrs s39.2.1) (fun y42 => (Option.bind (vcode_Writes y42) (fun r44 => (Option.bind (regalloc_points_l3 K r44 K (s39.1, 0)) (fun s46 => (Option.bind (idx y12.Instrs s39.2.1) (fun y66 => (Option.bind (vcode_Reads K y66) (fun r68 => (Option.bind (regalloc_points_l4 K r68 K (s46, 0)) (fun s70 => (Option.bind (idx s39.2.2 s39.2.1) (fun y82 => (regalloc_points_l2 K y12 k (s70, (w64 (s39.2.1 - 1)), (s39.2.2.set s39.2.1.toNat s70))))))))))))))))) (some s39.2.2))

def regalloc_points_l1 (K : Nat) (a0 : VFunc) (r2 : (List (List Int)) × (List (List Int))) : Nat → (Int × (List (List (List Int)))) → Option (List (List (List Int)))
  | 0, _ => none
  | k + 1, s9 => (cnd (decide (s9.1 < ((a0.Blocks).length : Int))) (Option.bind (idx a0.Blocks s9.1) (fun y12 => (Option.bind (mk 24 (w64 (((y12.Instrs).length : Int) + 2)) ([] : List Int)) (fun l15 => (Option.bind (idx r2.2 s9.1) (fun y18 => (Option.bind (idx l15 (w64 (((y12.Instrs).length : Int) + 1))) (fun y20 => (Option.bind (cnd ((y12.End == 2) || (y12.End == 3)) (Option.bind (regalloc_insert K y18 y12.Reg) (fun r29 => (some r29))) (some y18)) (fun s22 => (Option.bind (idx (l15.set (w64 (((y12.Instrs).length : Int) + 1)).toNat y18) ((y12.Instrs).length : Int)) (fun y32 => (Option.bind (regalloc_points_l2 K y12 K (s22, (w64 (((y12.Instrs).length : Int) - 1)), ((l15.set (w64 (((y12.Instrs).length : Int) + 1)).toNat y18).set ((y12.Instrs).length : Int).toNat s22))) (fun s34 => (Option.bind (app 24 s9.2 ([s34] : List (List (List Int)))) (fun l84 => (regalloc_points_l1 K a0 r2 k ((w64 (s9.1 + 1)), l84)))))))))))))))))) (some s9.2))

def regalloc_points (K : Nat) (a0 : VFunc) : Option (List (List (List Int))) :=
  (Option.bind (liveness_Blocks K a0) (fun r2 => (Option.bind (regalloc_points_l1 K a0 r2 K (0, ([] : List (List (List Int))))) (fun s4 => (some s4)))))

theorem c_regalloc_points (K : Nat) (a0 : VFunc) (r : (List (List (List Int)))) (h : regalloc_points K a0 = some r) : CallP Tryd.prog glob 91 [(Ty.agg [(tI a0.Params), (tI a0.Regs), (tL 5 Block.ty a0.Blocks)])] (tL 1 ls_SSI r) := by
  refine call_of_code Tryd.func91 rfl Tryd.ntmps91 rfl (fun L w => ?_)
  change OkC _ _ _ [(0, (Ty.agg [(tI a0.Params), (tI a0.Regs), (tL 5 Block.ty a0.Blocks)]))] (L)
  unfold regalloc_points at h
  refine okC_seq ?_
  refine okC_region ?_
  refine okL_stepO 1 rfl rfl (doesO_box [(tI a0.Params), (tI a0.Regs), (tL 5 Block.ty a0.Blocks)] rfl (part_agg _) (fun g1 => ?_))
  refine okL_step 2 (Ty.val (.slice none 0 0)) rfl rfl (does_assign rfl) ?_
  refine okL_nil ?_
  refine okX_next ?_
  refine okC_seq ?_
  refine okC_region ?_
  refine okL_step 16 (Ty.agg [(tI a0.Params), (tI a0.Regs), (tL 5 Block.ty a0.Blocks)]) rfl rfl (does_loadBA [(tI a0.Params), (tI a0.Regs), (tL 5 Block.ty a0.Blocks)] Tryd.isAgg27 Tryd.sizeOf27 rfl 0 rfl rfl rfl) ?_
  obtain ⟨r2, hc3, h⟩ := bs h
  refine okL_step 17 (Ty.tup [(tL 1 lIs r2.1), (tL 1 lIs r2.2)]) rfl rfl (does_call0 (c_liveness_Blocks K a0 r2 hc3) rfl Tryd.call22 rfl) ?_
  refine okL_step 15 (Ty.tup [(tL 1 lIs r2.1), (tL 1 lIs r2.2)]) rfl rfl (does_move rfl) ?_
  refine okL_step 18 (tL 1 lIs r2.1) rfl rfl (does_extract rfl rfl) ?_
  refine okL_step 19 (tL 1 lIs r2.2) rfl rfl (does_extract rfl rfl) ?_
  refine okL_step 3 (tL 1 lIs r2.1) rfl rfl (does_assign rfl) ?_
  refine okL_step 4 (tL 1 lIs r2.2) rfl rfl (does_assign rfl) ?_
  refine okL_nil ?_
  refine okX_next ?_
  refine okC_seq ?_
  refine okC_region ?_
  refine okL_step 5 (Ty.val (.slice none 0 0)) rfl rfl (does_assign rfl) ?_
  refine okL_nil ?_
  refine okX_next ?_
  refine okC_seq ?_
  refine okC_seq ?_
  refine okC_region ?_
  refine okL_step 20 (pAt g1 2) rfl rfl (does_fieldAddrP 2 Tryd.underlying27 rfl Tryd.sizeOf25 rfl rfl) ?_
  refine okL_step 21 (tL 5 Block.ty a0.Blocks) rfl rfl (does_loadB1 Tryd.isAgg25 rfl 0 rfl rfl) ?_
  refine okL_step 22 (tI ((a0.Blocks).length : Int)) rfl rfl (does_len (sz := 5) (f := Block.ty) (l := a0.Blocks) rfl Tryd.underlying25 rfl) ?_
  refine okL_step 23 (tI 0) rfl rfl (does_move rfl) ?_
  refine okL_nil ?_
  refine okX_next ?_
  refine okC_nilrow (sz := 1) ls_SSI 22 5 rfl ?_
  obtain ⟨z6, h8, hz7⟩ := bs h
  refine okC_meetE (X := ((List (List (List Int))) × Value)) (fun x => z6 = x.1) (fun x : ((List (List (List Int))) × Value) => [(5, (Ty.own x.2))]) (fun x : ((List (List (List Int))) × Value) => rowL x.2 22 1 ls_SSI x.1 :: Item.blk g1 27 [(tI a0.Params), (tI a0.Regs), (tL 5 Block.ty a0.Blocks)] :: L) ?_ ?_
  · refine okC_block ?_
    refine okC_loop (X := ((Int × (List (List (List Int)))) × Value)) (fun k x => regalloc_points_l1 K a0 r2 k x.1 = some z6) (fun x : ((Int × (List (List (List Int)))) × Value) => [(4, (tL 1 lIs r2.2)), (5, (Ty.own x.2)), (21, (tL 5 Block.ty a0.Blocks)), (22, (tI ((a0.Blocks).length : Int))), (23, (tI x.1.1))]) (fun x : ((Int × (List (List (List Int)))) × Value) => rowL x.2 22 1 ls_SSI x.1.2 :: Item.blk g1 27 [(tI a0.Params), (tI a0.Regs), (tL 5 Block.ty a0.Blocks)] :: L) K ((0, ([] : List (List (List Int)))), (.slice none 0 0)) h8 (cc rfl (cc rfl (cc rfl (cc rfl (cc rfl cn))))) rfl (fun k x hI => ?_)
    obtain ⟨s9, w10⟩ := x
    change OkC _ _ _ [(4, (tL 1 lIs r2.2)), (5, (Ty.own w10)), (21, (tL 5 Block.ty a0.Blocks)), (22, (tI ((a0.Blocks).length : Int))), (23, (tI s9.1))] (rowL w10 22 1 ls_SSI s9.2 :: Item.blk g1 27 [(tI a0.Params), (tI a0.Regs), (tL 5 Block.ty a0.Blocks)] :: L)
    cases k with
    | zero => exact (nz hI).elim
    | succ k =>
      have h : regalloc_points_l1 K a0 r2 (k + 1) s9 = some z6 := hI
      rw [regalloc_points_l1.eq_2] at h
      refine okC_seq ?_
      refine okC_region ?_
      refine okL_step 24 (tB (decide (s9.1 < ((a0.Blocks).length : Int)))) rfl rfl (does_lss rfl rfl) ?_
      refine okL_nil ?_
      refine okX_next ?_
      refine okC_seq ?_
      refine okC_cond (b := (decide (s9.1 < ((a0.Blocks).length : Int)))) rfl (fun hb11 => ?_) (fun hb11 => ?_)
      · replace h := ct hb11 h
        refine okC_skip ?_
        refine okX_next ?_
        refine okC_seq ?_
        refine okC_block ?_
        refine okC_seq ?_
        refine okC_region ?_
        refine okL_step 25 (tI s9.1) rfl rfl (does_move rfl) ?_
        obtain ⟨y12, hi13, h⟩ := bs h
        refine okL_step 26 (Ty.ptr [(tL 6 VInstr.ty y12.Instrs), (tI y12.End), (tI y12.Reg), (tI y12.Target), (tI y12.Else)]) rfl rfl (does_index (sz := 5) (f := Block.ty) (l := a0.Blocks) (n := s9.1) y12 Tryd.underlying25 Tryd.sizeOf43 hi13 rfl rfl) ?_
        refine okL_step 27 (Ty.agg [(tL 6 VInstr.ty y12.Instrs), (tI y12.End), (tI y12.Reg), (tI y12.Target), (tI y12.Else)]) rfl rfl (does_loadA [(tL 6 VInstr.ty y12.Instrs), (tI y12.End), (tI y12.Reg), (tI y12.Target), (tI y12.Else)] Tryd.isAgg43 Tryd.sizeOf43 rfl rfl rfl) ?_
        refine okL_stepO 7 rfl rfl (doesO_alloc [(Ty.val (.slice none 0 0)), (tI 0), (tI 0), (tI 0), (tI 0)] Tryd.zeroValue43 (part_of (sub_agg [(.slice none 0 0), (.int .i64 0), (.int .i64 0), (.int .i64 0), (.int .i64 0)] rfl) (part_agg _)) (fun g14 => ?_))
        refine okL_step 6 (tI s9.1) rfl rfl (does_assign rfl) ?_
        refine okL_stepU rfl (doesO_storeB (ps := [(tL 6 VInstr.ty y12.Instrs), (tI y12.End), (tI y12.Reg), (tI y12.Target), (tI y12.Else)]) 0 [(tL 6 VInstr.ty y12.Instrs), (tI y12.End), (tI y12.Reg), (tI y12.Target), (tI y12.Else)] (Item.blk g14 43 [(tL 6 VInstr.ty y12.Instrs), (tI y12.End), (tI y12.Reg), (tI y12.Target), (tI y12.Else)] :: rowL w10 22 1 ls_SSI s9.2 :: Item.blk g1 27 [(tI a0.Params), (tI a0.Regs), (tL 5 Block.ty a0.Blocks)] :: L) rfl rfl (part_agg _) Tryd.sizeOf43 rfl rfl rfl rfl ?_)
        refine okL_nil ?_
        refine okX_next ?_
        refine okC_seq ?_
        refine okC_region ?_
        refine okL_step 28 (pAt g14 0) rfl rfl (does_fieldAddrP 0 Tryd.underlying43 rfl Tryd.sizeOf41 rfl rfl) ?_
        refine okL_step 29 (tL 6 VInstr.ty y12.Instrs) rfl rfl (does_loadB1 Tryd.isAgg41 rfl 0 rfl rfl) ?_
        refine okL_step 30 (tI ((y12.Instrs).length : Int)) rfl rfl (does_len (sz := 6) (f := VInstr.ty) (l := y12.Instrs) rfl Tryd.underlying41 rfl) ?_
        refine okL_step 31 (tI (w64 (((y12.Instrs).length : Int) + 2))) rfl rfl (does_add rfl rfl) ?_
        obtain ⟨l15, hm16, h⟩ := bs h
        refine okL_stepO 32 rfl rfl (doesO_make (f := lIs) el22 ([] : List Int) l15 hm16 rfl rfl (part_sub (part_one (one_val rfl)) (.cons (sub_nil _) SubL.nil)) (fun v17 => ?_))
        refine okL_step 8 (Ty.own v17) rfl rfl (does_assign rfl) ?_
        refine okL_nil ?_
        refine okX_next ?_
        refine okC_seq ?_
        refine okC_region ?_
        refine okL_step 33 (tL 1 lIs r2.2) rfl rfl (does_move rfl) ?_
        refine okL_step 34 (tI s9.1) rfl rfl (does_move rfl) ?_
        obtain ⟨y18, hi19, h⟩ := bs h
        refine okL_step 35 (Ty.ptr [(tL 1 lI y18)]) rfl rfl (does_index (sz := 1) (f := lIs) (l := r2.2) (n := s9.1) y18 Tryd.underlying22 Tryd.sizeOf31 hi19 rfl rfl) ?_
        refine okL_step 36 (tL 1 lI y18) rfl rfl (does_load1 Tryd.isAgg31 rfl) ?_
        refine okL_step 9 (tL 1 lI y18) rfl rfl (does_assign rfl) ?_
        refine okL_nil ?_
        refine okX_next ?_
        refine okC_seq ?_
        refine okC_region ?_
        refine okL_step 37 (Ty.own v17) rfl rfl (does_move rfl) ?_
        refine okL_step 38 (pAt g14 0) rfl rfl (does_fieldAddrP 0 Tryd.underlying43 rfl Tryd.sizeOf41 rfl rfl) ?_
        refine okL_step 39 (tL 6 VInstr.ty y12.Instrs) rfl rfl (does_loadB1 Tryd.isAgg41 rfl 1 rfl rfl) ?_
        refine okL_step 40 (tI ((y12.Instrs).length : Int)) rfl rfl (does_len (sz := 6) (f := VInstr.ty) (l := y12.Instrs) rfl Tryd.underlying41 rfl) ?_
        refine okL_step 41 (tI (w64 (((y12.Instrs).length : Int) + 1))) rfl rfl (does_add rfl rfl) ?_
        refine okL_step 42 (tL 1 lI y18) rfl rfl (does_move rfl) ?_
        obtain ⟨y20, hi21, h⟩ := bs h
        refine okL_step 43 (Ty.rptr v17 ((w64 (((y12.Instrs).length : Int) + 1)).toNat * 1)) rfl rfl (does_indexR (f := lIs) (l := l15) (m := (w64 (((y12.Instrs).length : Int) + 1))) el22 0 y20 hi21 rfl rfl rfl) ?_
        refine okL_stepU rfl (doesO_storeR (f := lIs) (l := l15) (sz := 1) (ps := [(tL 1 lI y18)]) (y0 := y20) (y1 := y18) (m := (w64 (((y12.Instrs).length : Int) + 1))) 0 0 (l15.set (w64 (((y12.Instrs).length : Int) + 1)).toNat y18) (rowL v17 31 1 lIs (l15.set (w64 (((y12.Instrs).length : Int) + 1)).toNat y18) :: Item.blk g14 43 [(tL 6 VInstr.ty y12.Instrs), (tI y12.End), (tI y12.Reg), (tI y12.Target), (tI y12.Else)] :: rowL w10 22 1 ls_SSI s9.2 :: Item.blk g1 27 [(tI a0.Params), (tI a0.Regs), (tL 5 Block.ty a0.Blocks)] :: L) rfl rfl (part_one (one_slice _ _)) Tryd.sizeOf31 rfl hi21 rfl rfl rfl rfl rfl ?_)
        refine okL_nil ?_
        refine okX_next ?_
        obtain ⟨z24, h26, hz25⟩ := bs h
        refine okC_meet (X := (List Int)) (fun x => z24 = x) (fun x : (List Int) => [(4, (tL 1 lIs r2.2)), (5, (Ty.own w10)), (7, (pAt g14 0)), (8, (Ty.own v17)), (9, (tL 1 lI x)), (21, (tL 5 Block.ty a0.Blocks)), (22, (tI ((a0.Blocks).length : Int))), (23, (tI s9.1))]) (fun x : (List Int) => rowL v17 31 1 lIs (l15.set (w64 (((y12.Instrs).length : Int) + 1)).toNat y18) :: Item.blk g14 43 [(tL 6 VInstr.ty y12.Instrs), (tI y12.End), (tI y12.Reg), (tI y12.Target), (tI y12.Else)] :: rowL w10 22 1 ls_SSI s9.2 :: Item.blk g1 27 [(tI a0.Params), (tI a0.Regs), (tL 5 Block.ty a0.Blocks)] :: L) ?_ ?_
        · refine okC_seq ?_
          refine okC_region ?_
          refine okL_step 44 (pAt g14 1) rfl rfl (does_fieldAddrP 1 Tryd.underlying43 rfl Tryd.sizeOf3 rfl rfl) ?_
          refine okL_step 45 (tI y12.End) rfl rfl (does_loadB1 Tryd.isAgg3 rfl 1 rfl rfl) ?_
          refine okL_step 46 (tB (y12.End == 2)) rfl rfl (does_eql rfl rfl) ?_
          refine okL_step 47 (tB (y12.End == 2)) rfl rfl (does_move rfl) ?_
          refine okL_meet (X := Bool) 4 (fun x => x = ((y12.End == 2) || (y12.End == 3))) (fun x : Bool => [(4, (tL 1 lIs r2.2)), (5, (Ty.own w10)), (7, (pAt g14 0)), (8, (Ty.own v17)), (9, (tL 1 lI y18)), (21, (tL 5 Block.ty a0.Blocks)), (22, (tI ((a0.Blocks).length : Int))), (23, (tI s9.1)), (51, (tB x))]) (fun x : Bool => rowL v17 31 1 lIs (l15.set (w64 (((y12.Instrs).length : Int) + 1)).toNat y18) :: Item.blk g14 43 [(tL 6 VInstr.ty y12.Instrs), (tI y12.End), (tI y12.Reg), (tI y12.Target), (tI y12.Else)] :: rowL w10 22 1 ls_SSI s9.2 :: Item.blk g1 27 [(tI a0.Params), (tI a0.Regs), (tL 5 Block.ty a0.Blocks)] :: L) _ rfl ?_ ?_
          · refine okL_split (y12.End == 2) (fun hb27 => ?_) (fun hb27 => ?_)
            · refine okL_skip 48 47 (y12.End == 2) rfl rfl hb27 rfl rfl ?_
              refine okL_skip 49 47 (y12.End == 2) rfl rfl hb27 rfl rfl ?_
              refine okL_skip 50 47 (y12.End == 2) rfl rfl hb27 rfl rfl ?_
              refine okL_step 51 (tB true) rfl rfl (does_pick_t (y12.End == 2) rfl hb27 rfl) ?_
              refine okL_nil ?_
              exact okX_meet (I := _) true (or_t hb27) (cc rfl (cc rfl (cc rfl (cc rfl (cc rfl (cc rfl (cc rfl (cc rfl (cc rfl cn))))))))) rfl
            · refine okL_guard 48 (pAt g14 1) 47 (y12.End == 2) rfl rfl hb27 rfl rfl (does_fieldAddrP 1 Tryd.underlying43 rfl Tryd.sizeOf3 rfl rfl) ?_
              refine okL_guard 49 (tI y12.End) 47 (y12.End == 2) rfl rfl hb27 rfl rfl (does_loadB1 Tryd.isAgg3 rfl 1 rfl rfl) ?_
              refine okL_guard 50 (tB (y12.End == 3)) 47 (y12.End == 2) rfl rfl hb27 rfl rfl (does_eql rfl rfl) ?_
              refine okL_step 51 (tB (y12.End == 3)) rfl rfl (does_pick_f (y12.End == 2) rfl hb27 rfl) ?_
              refine okL_nil ?_
              exact okX_meet (I := _) (y12.End == 3) (or_f hb27) (cc rfl (cc rfl (cc rfl (cc rfl (cc rfl (cc rfl (cc rfl (cc rfl (cc rfl cn))))))))) rfl
          · intro x31 hx
            subst hx
            change OkL _ _ _ _ [(4, (tL 1 lIs r2.2)), (5, (Ty.own w10)), (7, (pAt g14 0)), (8, (Ty.own v17)), (9, (tL 1 lI y18)), (21, (tL 5 Block.ty a0.Blocks)), (22, (tI ((a0.Blocks).length : Int))), (23, (tI s9.1)), (51, (tB ((y12.End == 2) || (y12.End == 3))))] (rowL v17 31 1 lIs (l15.set (w64 (((y12.Instrs).length : Int) + 1)).toNat y18) :: Item.blk g14 43 [(tL 6 VInstr.ty y12.Instrs), (tI y12.End), (tI y12.Reg), (tI y12.Target), (tI y12.Else)] :: rowL w10 22 1 ls_SSI s9.2 :: Item.blk g1 27 [(tI a0.Params), (tI a0.Regs), (tL 5 Block.ty a0.Blocks)] :: L)
            refine okL_nil ?_
            refine okX_next ?_
            refine okC_cond (b := ((y12.End == 2) || (y12.End == 3))) rfl (fun hb28 => ?_) (fun hb28 => ?_)
            · replace h26 := ct hb28 h26
              refine okC_region ?_
              refine okL_step 52 (tL 1 lI y18) rfl rfl (does_move rfl) ?_
              refine okL_step 53 (pAt g14 2) rfl rfl (does_fieldAddrP 2 Tryd.underlying43 rfl Tryd.sizeOf3 rfl rfl) ?_
              refine okL_step 54 (tI y12.Reg) rfl rfl (does_loadB1 Tryd.isAgg3 rfl 1 rfl rfl) ?_
              obtain ⟨r29, hc30, h26⟩ := bs h26
              refine okL_step 55 (tL 1 lI r29) rfl rfl (does_call0 (c_regalloc_insert K y18 y12.Reg r29 hc30) rfl Tryd.call114 rfl) ?_
              refine okL_step 9 (tL 1 lI r29) rfl rfl (does_assign rfl) ?_
              refine okL_nil ?_
              exact okX_meet (I := _) r29 (smh h26) (cc rfl (cc rfl (cc rfl (cc rfl (cc rfl (cc rfl (cc rfl (cc rfl cn)))))))) rfl
            · replace h26 := cf hb28 h26
              refine okC_skip ?_
              exact okX_meet (I := _) y18 (smh h26) (cc rfl (cc rfl (cc rfl (cc rfl (cc rfl (cc rfl (cc rfl (cc rfl cn)))))))) rfl
        · intro s22 hx
          change OkC _ _ _ [(4, (tL 1 lIs r2.2)), (5, (Ty.own w10)), (7, (pAt g14 0)), (8, (Ty.own v17)), (9, (tL 1 lI s22)), (21, (tL 5 Block.ty a0.Blocks)), (22, (tI ((a0.Blocks).length : Int))), (23, (tI s9.1))] (rowL v17 31 1 lIs (l15.set (w64 (((y12.Instrs).length : Int) + 1)).toNat y18) :: Item.blk g14 43 [(tL 6 VInstr.ty y12.Instrs), (tI y12.End), (tI y12.Reg), (tI y12.Target), (tI y12.Else)] :: rowL w10 22 1 ls_SSI s9.2 :: Item.blk g1 27 [(tI a0.Params), (tI a0.Regs), (tL 5 Block.ty a0.Blocks)] :: L)
          obtain rfl : s22 = z24 := hx.symm
          replace h := hz25
          refine okC_seq ?_
          refine okC_region ?_
          refine okL_step 56 (Ty.own v17) rfl rfl (does_move rfl) ?_
          refine okL_step 57 (pAt g14 0) rfl rfl (does_fieldAddrP 0 Tryd.underlying43 rfl Tryd.sizeOf41 rfl rfl) ?_
          refine okL_step 58 (tL 6 VInstr.ty y12.Instrs) rfl rfl (does_loadB1 Tryd.isAgg41 rfl 1 rfl rfl) ?_
          refine okL_step 59 (tI ((y12.Instrs).length : Int)) rfl rfl (does_len (sz := 6) (f := VInstr.ty) (l := y12.Instrs) rfl Tryd.underlying41 rfl) ?_
          refine okL_step 60 (tL 1 lI s22) rfl rfl (does_move rfl) ?_
          obtain ⟨y32, hi33, h⟩ := bs h
          refine okL_step 61 (Ty.rptr v17 (((y12.Instrs).length : Int).toNat * 1)) rfl rfl (does_indexR (f := lIs) (l := (l15.set (w64 (((y12.Instrs).length : Int) + 1)).toNat y18)) (m := ((y12.Instrs).length : Int)) el22 0 y32 hi33 rfl rfl rfl) ?_
          refine okL_stepU rfl (doesO_storeR (f := lIs) (l := (l15.set (w64 (((y12.Instrs).length : Int) + 1)).toNat y18)) (sz := 1) (ps := [(tL 1 lI s22)]) (y0 := y32) (y1 := s22) (m := ((y12.Instrs).length : Int)) 0 0 ((l15.set (w64 (((y12.Instrs).length : Int) + 1)).toNat y18).set ((y12.Instrs).length : Int).toNat s22) (rowL v17 31 1 lIs ((l15.set (w64 (((y12.Instrs).length : Int) + 1)).toNat y18).set ((y12.Instrs).length : Int).toNat s22) :: Item.blk g14 43 [(tL 6 VInstr.ty y12.Instrs), (tI y12.End), (tI y12.Reg), (tI y12.Target), (tI y12.Else)] :: rowL w10 22 1 ls_SSI s9.2 :: Item.blk g1 27 [(tI a0.Params), (tI a0.Regs), (tL 5 Block.ty a0.Blocks)] :: L) rfl rfl (part_one (one_slice _ _)) Tryd.sizeOf31 rfl hi33 rfl rfl rfl rfl rfl ?_)
          refine okL_nil ?_
          refine okX_next ?_
          refine okC_seq ?_
          refine okC_seq ?_
          refine okC_region ?_
          refine okL_step 62 (pAt g14 0) rfl rfl (does_fieldAddrP 0 Tryd.underlying43 rfl Tryd.sizeOf41 rfl rfl) ?_
          refine okL_step 63 (tL 6 VInstr.ty y12.Instrs) rfl rfl (does_loadB1 Tryd.isAgg41 rfl 1 rfl rfl) ?_
          refine okL_step 64 (tI ((y12.Instrs).length : Int)) rfl rfl (does_len (sz := 6) (f := VInstr.ty) (l := y12.Instrs) rfl Tryd.underlying41 rfl) ?_
          refine okL_step 65 (tI (w64 (((y12.Instrs).length : Int) - 1))) rfl rfl (does_sub rfl rfl) ?_
          refine okL_step 10 (tI (w64 (((y12.Instrs).length : Int) - 1))) rfl rfl (does_assign rfl) ?_
          refine okL_nil ?_
          refine okX_next ?_
          obtain ⟨z36, h38, hz37⟩ := bs h
          refine okC_meetE (X := (List (List Int))) (fun x => z36 = x) (fun x : (List (List Int)) => [(4, (tL 1 lIs r2.2)), (5, (Ty.own w10)), (8, (Ty.own v17)), (21, (tL 5 Block.ty a0.Blocks)), (22, (tI ((a0.Blocks).length : Int))), (23, (tI s9.1))]) (fun x : (List (List Int)) => rowL v17 31 1 lIs x :: Item.blk g14 43 [(tL 6 VInstr.ty y12.Instrs), (tI y12.End), (tI y12.Reg), (tI y12.Target), (tI y12.Else)] :: rowL w10 22 1 ls_SSI s9.2 :: Item.blk g1 27 [(tI a0.Params), (tI a0.Regs), (tL 5 Block.ty a0.Blocks)] :: L) ?_ ?_
          · refine okC_block ?_
            refine okC_loop (X := ((List Int) × Int × (List (List Int)))) (fun k x => regalloc_points_l2 K y12 k x = some z36) (fun x : ((List Int) × Int × (List (List Int))) => [(4, (tL 1 lIs r2.2)), (5, (Ty.own w10)), (7, (pAt g14 0)), (8, (Ty.own v17)), (9, (tL 1 lI x.1)), (10, (tI x.2.1)), (21, (tL 5 Block.ty a0.Blocks)), (22, (tI ((a0.Blocks).length : Int))), (23, (tI s9.1))]) (fun x : ((List Int) × Int × (List (List Int))) => rowL v17 31 1 lIs x.2.2 :: Item.blk g14 43 [(tL 6 VInstr.ty y12.Instrs), (tI y12.End), (tI y12.Reg), (tI y12.Target), (tI y12.Else)] :: rowL w10 22 1 ls_SSI s9.2 :: Item.blk g1 27 [(tI a0.Params), (tI a0.Regs), (tL 5 Block.ty a0.Blocks)] :: L) K (s22, (w64 (((y12.Instrs).length : Int) - 1)), ((l15.set (w64 (((y12.Instrs).length : Int) + 1)).toNat y18).set ((y12.Instrs).length : Int).toNat s22)) h38 (cc rfl (cc rfl (cc rfl (cc rfl (cc rfl (cc rfl (cc rfl (cc rfl (cc rfl cn))))))))) rfl (fun k s39 hI => ?_)
            change OkC _ _ _ [(4, (tL 1 lIs r2.2)), (5, (Ty.own w10)), (7, (pAt g14 0)), (8, (Ty.own v17)), (9, (tL 1 lI s39.1)), (10, (tI s39.2.1)), (21, (tL 5 Block.ty a0.Blocks)), (22, (tI ((a0.Blocks).length : Int))), (23, (tI s9.1))] (rowL v17 31 1 lIs s39.2.2 :: Item.blk g14 43 [(tL 6 VInstr.ty y12.Instrs), (tI y12.End), (tI y12.Reg), (tI y12.Target), (tI y12.Else)] :: rowL w10 22 1 ls_SSI s9.2 :: Item.blk g1 27 [(tI a0.Params), (tI a0.Regs), (tL 5 Block.ty a0.Blocks)] :: L)
            cases k with
            | zero => exact (nz hI).elim
            | succ k =>
              have h : regalloc_points_l2 K y12 (k + 1) s39 = some z36 := hI
              rw [regalloc_points_l2.eq_2] at h
              refine okC_seq ?_
              refine okC_seq ?_
              refine okC_region ?_
              refine okL_step 66 (tI s39.2.1) rfl rfl (does_move rfl) ?_
              refine okL_step 67 (tB (decide (s39.2.1 ≥ 0))) rfl rfl (does_geq rfl rfl) ?_
              refine okL_nil ?_
              refine okX_next ?_
              refine okC_cond (b := (decide (s39.2.1 ≥ 0))) rfl (fun hb41 => ?_) (fun hb41 => ?_)
              · replace h := ct hb41 h
                refine okC_skip ?_
                refine okX_next ?_
                refine okC_seq ?_
                refine okC_block ?_
                refine okC_seq ?_
                refine okC_seq ?_
                refine okC_region ?_
                refine okL_step 70 (pAt g14 0) rfl rfl (does_fieldAddrP 0 Tryd.underlying43 rfl Tryd.sizeOf41 rfl rfl) ?_
                refine okL_step 71 (tL 6 VInstr.ty y12.Instrs) rfl rfl (does_loadB1 Tryd.isAgg41 rfl 1 rfl rfl) ?_
                refine okL_step 72 (tI s39.2.1) rfl rfl (does_move rfl) ?_
                obtain ⟨y42, hi43, h⟩ := bs h
                refine okL_step 73 (Ty.ptr [(tI y42.Instr.Op), (tI y42.Instr.A), (tI y42.Instr.B), (tI y42.Instr.C), (tI y42.Instr.N), (tL 1 lI y42.Args)]) rfl rfl (does_index (sz := 6) (f := VInstr.ty) (l := y12.Instrs) (n := s39.2.1) y42 Tryd.underlying41 Tryd.sizeOf48 hi43 rfl rfl) ?_
                refine okL_step 74 (Ty.agg [(tI y42.Instr.Op), (tI y42.Instr.A), (tI y42.Instr.B), (tI y42.Instr.C), (tI y42.Instr.N), (tL 1 lI y42.Args)]) rfl rfl (does_loadA [(tI y42.Instr.Op), (tI y42.Instr.A), (tI y42.Instr.B), (tI y42.Instr.C), (tI y42.Instr.N), (tL 1 lI y42.Args)] Tryd.isAgg48 Tryd.sizeOf48 rfl rfl rfl) ?_
                obtain ⟨r44, hc45, h⟩ := bs h
                refine okL_step 75 (tL 1 lI r44) rfl rfl (does_call0 (c_vcode_Writes y42 r44 hc45) rfl Tryd.call96 rfl) ?_
                refine okL_step 76 (tI ((r44).length : Int)) rfl rfl (does_len (sz := 1) (f := lI) (l := r44) rfl Tryd.underlying31 rfl) ?_
                refine okL_step 77 (tI 0) rfl rfl (does_move rfl) ?_
                refine okL_nil ?_
                refine okX_next ?_
                obtain ⟨z48, h50, hz49⟩ := bs h
                refine okC_meetE (X := (List Int)) (fun x => z48 = x) (fun x : (List Int) => [(4, (tL 1 lIs r2.2)), (5, (Ty.own w10)), (7, (pAt g14 0)), (8, (Ty.own v17)), (9, (tL 1 lI x)), (10, (tI s39.2.1)), (21, (tL 5 Block.ty a0.Blocks)), (22, (tI ((a0.Blocks).length : Int))), (23, (tI s9.1))]) (fun x : (List Int) => rowL v17 31 1 lIs s39.2.2 :: Item.blk g14 43 [(tL 6 VInstr.ty y12.Instrs), (tI y12.End), (tI y12.Reg), (tI y12.Target), (tI y12.Else)] :: rowL w10 22 1 ls_SSI s9.2 :: Item.blk g1 27 [(tI a0.Params), (tI a0.Regs), (tL 5 Block.ty a0.Blocks)] :: L) ?_ ?_
                · refine okC_block ?_
                  refine okC_loop (X := ((List Int) × Int)) (fun k x => regalloc_points_l3 K r44 k x = some z48) (fun x : ((List Int) × Int) => [(4, (tL 1 lIs r2.2)), (5, (Ty.own w10)), (7, (pAt g14 0)), (8, (Ty.own v17)), (9, (tL 1 lI x.1)), (10, (tI s39.2.1)), (21, (tL 5 Block.ty a0.Blocks)), (22, (tI ((a0.Blocks).length : Int))), (23, (tI s9.1)), (75, (tL 1 lI r44)), (76, (tI ((r44).length : Int))), (77, (tI x.2))]) (fun x : ((List Int) × Int) => rowL v17 31 1 lIs s39.2.2 :: Item.blk g14 43 [(tL 6 VInstr.ty y12.Instrs), (tI y12.End), (tI y12.Reg), (tI y12.Target), (tI y12.Else)] :: rowL w10 22 1 ls_SSI s9.2 :: Item.blk g1 27 [(tI a0.Params), (tI a0.Regs), (tL 5 Block.ty a0.Blocks)] :: L) K (s39.1, 0) h50 (cc rfl (cc rfl (cc rfl (cc rfl (cc rfl (cc rfl (cc rfl (cc rfl (cc rfl (cc rfl (cc rfl (cc rfl cn)))))))))))) rfl (fun k s51 hI => ?_)
                  change OkC _ _ _ [(4, (tL 1 lIs r2.2)), (5, (Ty.own w10)), (7, (pAt g14 0)), (8, (Ty.own v17)), (9, (tL 1 lI s51.1)), (10, (tI s39.2.1)), (21, (tL 5 Block.ty a0.Blocks)), (22, (tI ((a0.Blocks).length : Int))), (23, (tI s9.1)), (75, (tL 1 lI r44)), (76, (tI ((r44).length : Int))), (77, (tI s51.2))] (rowL v17 31 1 lIs s39.2.2 :: Item.blk g14 43 [(tL 6 VInstr.ty y12.Instrs), (tI y12.End), (tI y12.Reg), (tI y12.Target), (tI y12.Else)] :: rowL w10 22 1 ls_SSI s9.2 :: Item.blk g1 27 [(tI a0.Params), (tI a0.Regs), (tL 5 Block.ty a0.Blocks)] :: L)
                  cases k with
                  | zero => exact (nz hI).elim
                  | succ k =>
                    have h : regalloc_points_l3 K r44 (k + 1) s51 = some z48 := hI
                    rw [regalloc_points_l3.eq_2] at h
                    refine okC_seq ?_
                    refine okC_region ?_
                    refine okL_step 78 (tB (decide (s51.2 < ((r44).length : Int)))) rfl rfl (does_lss rfl rfl) ?_
                    refine okL_nil ?_
                    refine okX_next ?_
                    refine okC_seq ?_
                    refine okC_cond (b := (decide (s51.2 < ((r44).length : Int)))) rfl (fun hb53 => ?_) (fun hb53 => ?_)
                    · replace h := ct hb53 h
                      refine okC_skip ?_
                      refine okX_next ?_
                      obtain ⟨z56, h58, hz57⟩ := bs h
                      refine okC_meet (X := (List Int)) (fun x => z56 = x) (fun x : (List Int) => [(4, (tL 1 lIs r2.2)), (5, (Ty.own w10)), (7, (pAt g14 0)), (8, (Ty.own v17)), (9, (tL 1 lI x)), (10, (tI s39.2.1)), (21, (tL 5 Block.ty a0.Blocks)), (22, (tI ((a0.Blocks).length : Int))), (23, (tI s9.1)), (75, (tL 1 lI r44)), (76, (tI ((r44).length : Int))), (77, (tI s51.2))]) (fun x : (List Int) => rowL v17 31 1 lIs s39.2.2 :: Item.blk g14 43 [(tL 6 VInstr.ty y12.Instrs), (tI y12.End), (tI y12.Reg), (tI y12.Target), (tI y12.Else)] :: rowL w10 22 1 ls_SSI s9.2 :: Item.blk g1 27 [(tI a0.Params), (tI a0.Regs), (tL 5 Block.ty a0.Blocks)] :: L) ?_ ?_
                      · refine okC_block ?_
                        refine okC_seq ?_
                        refine okC_region ?_
                        obtain ⟨y59, hi60, h58⟩ := bs h58
                        refine okL_step 79 (Ty.ptr [(tI y59)]) rfl rfl (does_index (sz := 1) (f := lI) (l := r44) (n := s51.2) y59 Tryd.underlying31 Tryd.sizeOf3 hi60 rfl rfl) ?_
                        refine okL_step 80 (tI y59) rfl rfl (does_load1 Tryd.isAgg3 rfl) ?_
                        refine okL_step 12 (tI y59) rfl rfl (does_assign rfl) ?_
                        refine okL_nil ?_
                        refine okX_next ?_
                        refine okC_seq ?_
                        refine okC_region ?_
                        refine okL_step 81 (tL 1 lI s51.1) rfl rfl (does_move rfl) ?_
                        refine okL_step 82 (tI y59) rfl rfl (does_move rfl) ?_
                        obtain ⟨r61, hc62, h58⟩ := bs h58
                        refine okL_step 83 (tB r61) rfl rfl (does_call0 (c_regalloc_contains K s51.1 y59 r61 hc62) rfl Tryd.call115 rfl) ?_
                        refine okL_nil ?_
                        refine okX_next ?_
                        refine okC_cond (b := r61) rfl (fun hb63 => ?_) (fun hb63 => ?_)
                        · replace h58 := ct hb63 h58
                          refine okC_region ?_
                          refine okL_step 84 (tL 1 lI s51.1) rfl rfl (does_move rfl) ?_
                          refine okL_step 85 (tI y59) rfl rfl (does_move rfl) ?_
                          obtain ⟨r64, hc65, h58⟩ := bs h58
                          refine okL_step 86 (tL 1 lI r64) rfl rfl (does_call0 (c_regalloc_without K s51.1 y59 r64 hc65) rfl Tryd.call116 rfl) ?_
                          refine okL_step 9 (tL 1 lI r64) rfl rfl (does_assign rfl) ?_
                          refine okL_nil ?_
                          refine okX_block_normal ?_
                          exact okX_meet (I := _) r64 (smh h58) (cc rfl (cc rfl (cc rfl (cc rfl (cc rfl (cc rfl (cc rfl (cc rfl (cc rfl (cc rfl (cc rfl (cc rfl cn)))))))))))) rfl
                        · replace h58 := cf hb63 h58
                          refine okC_skip ?_
                          refine okX_block_normal ?_
                          exact okX_meet (I := _) s51.1 (smh h58) (cc rfl (cc rfl (cc rfl (cc rfl (cc rfl (cc rfl (cc rfl (cc rfl (cc rfl (cc rfl (cc rfl (cc rfl cn)))))))))))) rfl
                      · intro s54 hx
                        change OkC _ _ _ [(4, (tL 1 lIs r2.2)), (5, (Ty.own w10)), (7, (pAt g14 0)), (8, (Ty.own v17)), (9, (tL 1 lI s54)), (10, (tI s39.2.1)), (21, (tL 5 Block.ty a0.Blocks)), (22, (tI ((a0.Blocks).length : Int))), (23, (tI s9.1)), (75, (tL 1 lI r44)), (76, (tI ((r44).length : Int))), (77, (tI s51.2))] (rowL v17 31 1 lIs s39.2.2 :: Item.blk g14 43 [(tL 6 VInstr.ty y12.Instrs), (tI y12.End), (tI y12.Reg), (tI y12.Target), (tI y12.Else)] :: rowL w10 22 1 ls_SSI s9.2 :: Item.blk g1 27 [(tI a0.Params), (tI a0.Regs), (tL 5 Block.ty a0.Blocks)] :: L)
                        obtain rfl : s54 = z56 := hx.symm
                        replace h := hz57
                        refine okC_region ?_
                        refine okL_step 87 (tI (w64 (s51.2 + 1))) rfl rfl (does_add rfl rfl) ?_
                        refine okL_step 77 (tI (w64 (s51.2 + 1))) rfl rfl (does_move rfl) ?_
                        refine okL_nil ?_
                        exact okX_again k (Nat.lt_succ_self k) (s54, (w64 (s51.2 + 1))) h (cc rfl (cc rfl (cc rfl (cc rfl (cc rfl (cc rfl (cc rfl (cc rfl (cc rfl (cc rfl (cc rfl (cc rfl cn)))))))))))) rfl
                    · replace h := cf hb53 h
                      refine okC_exit ?_
                      refine okX_then_exit ?_
                      refine okX_again_exit ?_
                      refine okX_block_hit ?_
                      exact okX_meet (I := _) s51.1 (smh h) (cc rfl (cc rfl (cc rfl (cc rfl (cc rfl (cc rfl (cc rfl (cc rfl (cc rfl cn))))))))) rfl
                · intro s46 hx
                  change OkX _ _ _ [(4, (tL 1 lIs r2.2)), (5, (Ty.own w10)), (7, (pAt g14 0)), (8, (Ty.own v17)), (9, (tL 1 lI s46)), (10, (tI s39.2.1)), (21, (tL 5 Block.ty a0.Blocks)), (22, (tI ((a0.Blocks).length : Int))), (23, (tI s9.1))] (rowL v17 31 1 lIs s39.2.2 :: Item.blk g14 43 [(tL 6 VInstr.ty y12.Instrs), (tI y12.End), (tI y12.Reg), (tI y12.Target), (tI y12.Else)] :: rowL w10 22 1 ls_SSI s9.2 :: Item.blk g1 27 [(tI a0.Params), (tI a0.Regs), (tL 5 Block.ty a0.Blocks)] :: L)
                  obtain rfl : s46 = z48 := hx.symm
                  replace h := hz49
                  refine okX_next ?_
                  refine okC_seq ?_
                  refine okC_seq ?_
                  refine okC_region ?_
                  refine okL_step 88 (pAt g14 0) rfl rfl (does_fieldAddrP 0 Tryd.underlying43 rfl Tryd.sizeOf41 rfl rfl) ?_
                  refine okL_step 89 (tL 6 VInstr.ty y12.Instrs) rfl rfl (does_loadB1 Tryd.isAgg41 rfl 1 rfl rfl) ?_
                  refine okL_step 90 (tI s39.2.1) rfl rfl (does_move rfl) ?_
                  obtain ⟨y66, hi67, h⟩ := bs h
                  refine okL_step 91 (Ty.ptr [(tI y66.Instr.Op), (tI y66.Instr.A), (tI y66.Instr.B), (tI y66.Instr.C), (tI y66.Instr.N), (tL 1 lI y66.Args)]) rfl rfl (does_index (sz := 6) (f := VInstr.ty) (l := y12.Instrs) (n := s39.2.1) y66 Tryd.underlying41 Tryd.sizeOf48 hi67 rfl rfl) ?_
                  refine okL_step 92 (Ty.agg [(tI y66.Instr.Op), (tI y66.Instr.A), (tI y66.Instr.B), (tI y66.Instr.C), (tI y66.Instr.N), (tL 1 lI y66.Args)]) rfl rfl (does_loadA [(tI y66.Instr.Op), (tI y66.Instr.A), (tI y66.Instr.B), (tI y66.Instr.C), (tI y66.Instr.N), (tL 1 lI y66.Args)] Tryd.isAgg48 Tryd.sizeOf48 rfl rfl rfl) ?_
                  obtain ⟨r68, hc69, h⟩ := bs h
                  refine okL_step 93 (tL 1 lI r68) rfl rfl (does_call0 (d_vcode_Reads K y66 r68 hc69) rfl Tryd.call95 rfl) ?_
                  refine okL_step 94 (tI ((r68).length : Int)) rfl rfl (does_len (sz := 1) (f := lI) (l := r68) rfl Tryd.underlying31 rfl) ?_
                  refine okL_step 95 (tI 0) rfl rfl (does_move rfl) ?_
                  refine okL_nil ?_
                  refine okX_next ?_
                  obtain ⟨z72, h74, hz73⟩ := bs h
                  refine okC_meetE (X := (List Int)) (fun x => z72 = x) (fun x : (List Int) => [(4, (tL 1 lIs r2.2)), (5, (Ty.own w10)), (7, (pAt g14 0)), (8, (Ty.own v17)), (9, (tL 1 lI x)), (10, (tI s39.2.1)), (21, (tL 5 Block.ty a0.Blocks)), (22, (tI ((a0.Blocks).length : Int))), (23, (tI s9.1))]) (fun x : (List Int) => rowL v17 31 1 lIs s39.2.2 :: Item.blk g14 43 [(tL 6 VInstr.ty y12.Instrs), (tI y12.End), (tI y12.Reg), (tI y12.Target), (tI y12.Else)] :: rowL w10 22 1 ls_SSI s9.2 :: Item.blk g1 27 [(tI a0.Params), (tI a0.Regs), (tL 5 Block.ty a0.Blocks)] :: L) ?_ ?_
                  · refine okC_block ?_
                    refine okC_loop (X := ((List Int) × Int)) (fun k x => regalloc_points_l4 K r68 k x = some z72) (fun x : ((List Int) × Int) => [(4, (tL 1 lIs r2.2)), (5, (Ty.own w10)), (7, (pAt g14 0)), (8, (Ty.own v17)), (9, (tL 1 lI x.1)), (10, (tI s39.2.1)), (21, (tL 5 Block.ty a0.Blocks)), (22, (tI ((a0.Blocks).length : Int))), (23, (tI s9.1)), (93, (tL 1 lI r68)), (94, (tI ((r68).length : Int))), (95, (tI x.2))]) (fun x : ((List Int) × Int) => rowL v17 31 1 lIs s39.2.2 :: Item.blk g14 43 [(tL 6 VInstr.ty y12.Instrs), (tI y12.End), (tI y12.Reg), (tI y12.Target), (tI y12.Else)] :: rowL w10 22 1 ls_SSI s9.2 :: Item.blk g1 27 [(tI a0.Params), (tI a0.Regs), (tL 5 Block.ty a0.Blocks)] :: L) K (s46, 0) h74 (cc rfl (cc rfl (cc rfl (cc rfl (cc rfl (cc rfl (cc rfl (cc rfl (cc rfl (cc rfl (cc rfl (cc rfl cn)))))))))))) rfl (fun k s75 hI => ?_)
                    change OkC _ _ _ [(4, (tL 1 lIs r2.2)), (5, (Ty.own w10)), (7, (pAt g14 0)), (8, (Ty.own v17)), (9, (tL 1 lI s75.1)), (10, (tI s39.2.1)), (21, (tL 5 Block.ty a0.Blocks)), (22, (tI ((a0.Blocks).length : Int))), (23, (tI s9.1)), (93, (tL 1 lI r68)), (94, (tI ((r68).length : Int))), (95, (tI s75.2))] (rowL v17 31 1 lIs s39.2.2 :: Item.blk g14 43 [(tL 6 VInstr.ty y12.Instrs), (tI y12.End), (tI y12.Reg), (tI y12.Target), (tI y12.Else)] :: rowL w10 22 1 ls_SSI s9.2 :: Item.blk g1 27 [(tI a0.Params), (tI a0.Regs), (tL 5 Block.ty a0.Blocks)] :: L)
                    cases k with
                    | zero => exact (nz hI).elim
                    | succ k =>
                      have h : regalloc_points_l4 K r68 (k + 1) s75 = some z72 := hI
                      rw [regalloc_points_l4.eq_2] at h
                      refine okC_seq ?_
                      refine okC_region ?_
                      refine okL_step 96 (tB (decide (s75.2 < ((r68).length : Int)))) rfl rfl (does_lss rfl rfl) ?_
                      refine okL_nil ?_
                      refine okX_next ?_
                      refine okC_seq ?_
                      refine okC_cond (b := (decide (s75.2 < ((r68).length : Int)))) rfl (fun hb77 => ?_) (fun hb77 => ?_)
                      · replace h := ct hb77 h
                        refine okC_skip ?_
                        refine okX_next ?_
                        refine okC_seq ?_
                        refine okC_block ?_
                        refine okC_seq ?_
                        refine okC_region ?_
                        obtain ⟨y78, hi79, h⟩ := bs h
                        refine okL_step 97 (Ty.ptr [(tI y78)]) rfl rfl (does_index (sz := 1) (f := lI) (l := r68) (n := s75.2) y78 Tryd.underlying31 Tryd.sizeOf3 hi79 rfl rfl) ?_
                        refine okL_step 98 (tI y78) rfl rfl (does_load1 Tryd.isAgg3 rfl) ?_
                        refine okL_step 14 (tI y78) rfl rfl (does_assign rfl) ?_
                        refine okL_nil ?_
                        refine okX_next ?_
                        refine okC_region ?_
                        refine okL_step 99 (tL 1 lI s75.1) rfl rfl (does_move rfl) ?_
                        refine okL_step 100 (tI y78) rfl rfl (does_move rfl) ?_
                        obtain ⟨r80, hc81, h⟩ := bs h
                        refine okL_step 101 (tL 1 lI r80) rfl rfl (does_call0 (c_regalloc_insert K s75.1 y78 r80 hc81) rfl Tryd.call114 rfl) ?_
                        refine okL_step 9 (tL 1 lI r80) rfl rfl (does_assign rfl) ?_
                        refine okL_nil ?_
                        refine okX_block_normal ?_
                        refine okX_next ?_
                        refine okC_region ?_
                        refine okL_step 102 (tI (w64 (s75.2 + 1))) rfl rfl (does_add rfl rfl) ?_
                        refine okL_step 95 (tI (w64 (s75.2 + 1))) rfl rfl (does_move rfl) ?_
                        refine okL_nil ?_
                        exact okX_again k (Nat.lt_succ_self k) (r80, (w64 (s75.2 + 1))) h (cc rfl (cc rfl (cc rfl (cc rfl (cc rfl (cc rfl (cc rfl (cc rfl (cc rfl (cc rfl (cc rfl (cc rfl cn)))))))))))) rfl
                      · replace h := cf hb77 h
                        refine okC_exit ?_
                        refine okX_then_exit ?_
                        refine okX_again_exit ?_
                        refine okX_block_hit ?_
                        exact okX_meet (I := _) s75.1 (smh h) (cc rfl (cc rfl (cc rfl (cc rfl (cc rfl (cc rfl (cc rfl (cc rfl (cc rfl cn))))))))) rfl
                  · intro s70 hx
                    change OkX _ _ _ [(4, (tL 1 lIs r2.2)), (5, (Ty.own w10)), (7, (pAt g14 0)), (8, (Ty.own v17)), (9, (tL 1 lI s70)), (10, (tI s39.2.1)), (21, (tL 5 Block.ty a0.Blocks)), (22, (tI ((a0.Blocks).length : Int))), (23, (tI s9.1))] (rowL v17 31 1 lIs s39.2.2 :: Item.blk g14 43 [(tL 6 VInstr.ty y12.Instrs), (tI y12.End), (tI y12.Reg), (tI y12.Target), (tI y12.Else)] :: rowL w10 22 1 ls_SSI s9.2 :: Item.blk g1 27 [(tI a0.Params), (tI a0.Regs), (tL 5 Block.ty a0.Blocks)] :: L)
                    obtain rfl : s70 = z72 := hx.symm
                    replace h := hz73
                    refine okX_next ?_
                    refine okC_region ?_
                    refine okL_step 103 (Ty.own v17) rfl rfl (does_move rfl) ?_
                    refine okL_step 104 (tI s39.2.1) rfl rfl (does_move rfl) ?_
                    refine okL_step 105 (tL 1 lI s70) rfl rfl (does_move rfl) ?_
                    obtain ⟨y82, hi83, h⟩ := bs h
                    refine okL_step 106 (Ty.rptr v17 (s39.2.1.toNat * 1)) rfl rfl (does_indexR (f := lIs) (l := s39.2.2) (m := s39.2.1) el22 0 y82 hi83 rfl rfl rfl) ?_
                    refine okL_stepU rfl (doesO_storeR (f := lIs) (l := s39.2.2) (sz := 1) (ps := [(tL 1 lI s70)]) (y0 := y82) (y1 := s70) (m := s39.2.1) 0 0 (s39.2.2.set s39.2.1.toNat s70) (rowL v17 31 1 lIs (s39.2.2.set s39.2.1.toNat s70) :: Item.blk g14 43 [(tL 6 VInstr.ty y12.Instrs), (tI y12.End), (tI y12.Reg), (tI y12.Target), (tI y12.Else)] :: rowL w10 22 1 ls_SSI s9.2 :: Item.blk g1 27 [(tI a0.Params), (tI a0.Regs), (tL 5 Block.ty a0.Blocks)] :: L) rfl rfl (part_one (one_slice _ _)) Tryd.sizeOf31 rfl hi83 rfl rfl rfl rfl rfl ?_)
                    refine okL_nil ?_
                    refine okX_block_normal ?_
                    refine okX_next ?_
                    refine okC_region ?_
                    refine okL_step 68 (tI s39.2.1) rfl rfl (does_move rfl) ?_
                    refine okL_step 69 (tI (w64 (s39.2.1 - 1))) rfl rfl (does_sub rfl rfl) ?_
                    refine okL_step 10 (tI (w64 (s39.2.1 - 1))) rfl rfl (does_assign rfl) ?_
                    refine okL_nil ?_
                    exact okX_again k (Nat.lt_succ_self k) (s70, (w64 (s39.2.1 - 1)), (s39.2.2.set s39.2.1.toNat s70)) h (cc rfl (cc rfl (cc rfl (cc rfl (cc rfl (cc rfl (cc rfl (cc rfl (cc rfl cn))))))))) rfl
              · replace h := cf hb41 h
                refine okC_exit ?_
                refine okX_then_exit ?_
                refine okX_again_exit ?_
                refine okX_block_hit ?_
                exact okX_meet (I := _) s39.2.2 (smh h) (cc rfl (cc rfl (cc rfl (cc rfl (cc rfl (cc rfl cn)))))) rfl
          · intro s34 hx
            change OkX _ _ _ [(4, (tL 1 lIs r2.2)), (5, (Ty.own w10)), (8, (Ty.own v17)), (21, (tL 5 Block.ty a0.Blocks)), (22, (tI ((a0.Blocks).length : Int))), (23, (tI s9.1))] (rowL v17 31 1 lIs s34 :: Item.blk g14 43 [(tL 6 VInstr.ty y12.Instrs), (tI y12.End), (tI y12.Reg), (tI y12.Target), (tI y12.Else)] :: rowL w10 22 1 ls_SSI s9.2 :: Item.blk g1 27 [(tI a0.Params), (tI a0.Regs), (tL 5 Block.ty a0.Blocks)] :: L)
            obtain rfl : s34 = z36 := hx.symm
            replace h := hz37
            refine okX_next ?_
            refine okC_region ?_
            refine okL_step 107 (Ty.own w10) rfl rfl (does_move rfl) ?_
            refine okL_step 108 (Ty.own v17) rfl rfl (does_move rfl) ?_
            refine okL_publish 0 [8, 108] (Item.blk g14 43 [(tL 6 VInstr.ty y12.Instrs), (tI y12.End), (tI y12.Reg), (tI y12.Target), (tI y12.Else)] :: rowL w10 22 1 ls_SSI s9.2 :: Item.blk g1 27 [(tI a0.Params), (tI a0.Regs), (tL 5 Block.ty a0.Blocks)] :: L) rfl (ac rfl (ac rfl an)) rfl ?_
            refine okL_step 109 (tL 1 ls_SSI ([s34] : List (List (List Int)))) rfl rfl (does_buildSlice (f := ls_SSI) ([s34] : List (List (List Int))) [(tL 1 lIs s34)] el132 rfl rfl rfl (fc [(tL 1 lIs s34)] 0 rfl (part_one (one_slice _ _)) rfl rfl (fn_ rfl)) rfl (fun _ => rfl)) ?_
            obtain ⟨l84, ha85, h⟩ := bs h
            refine okL_stepO 110 rfl rfl (doesO_append (f := ls_SSI) (l := s9.2) (m := ([s34] : List (List (List Int)))) el132 1 l84 (fun v86 => Item.blk g14 43 [(tL 6 VInstr.ty y12.Instrs), (tI y12.End), (tI y12.Reg), (tI y12.Target), (tI y12.Else)] :: rowL v86 22 1 ls_SSI l84 :: Item.blk g1 27 [(tI a0.Params), (tI a0.Regs), (tL 5 Block.ty a0.Blocks)] :: L) ha85 rfl rfl rfl (fun _ => rfl) (fun v86 => ?_))
            refine okL_step 5 (Ty.own v86) rfl rfl (does_assign rfl) ?_
            refine okL_nil ?_
            refine okX_block_normal ?_
            refine okX_next ?_
            refine okC_region ?_
            refine okL_step 111 (tI (w64 (s9.1 + 1))) rfl rfl (does_add rfl rfl) ?_
            refine okL_step 23 (tI (w64 (s9.1 + 1))) rfl rfl (does_move rfl) ?_
            refine okL_nil ?_
            refine okX_items [Item.blk g14 43 [(tL 6 VInstr.ty y12.Instrs), (tI y12.End), (tI y12.Reg), (tI y12.Target), (tI y12.Else)]] (rowL v86 22 1 ls_SSI l84 :: Item.blk g1 27 [(tI a0.Params), (tI a0.Regs), (tL 5 Block.ty a0.Blocks)] :: L) (pm 0 rfl (pm 0 rfl (pm 0 rfl (pr _)))) ?_
            exact okX_again k (Nat.lt_succ_self k) (((w64 (s9.1 + 1)), l84), v86) h (cc rfl (cc rfl (cc rfl (cc rfl (cc rfl cn))))) rfl
      · replace h := cf hb11 h
        refine okC_exit ?_
        refine okX_then_exit ?_
        refine okX_again_exit ?_
        refine okX_block_hit ?_
        exact okX_meet (I := _) (s9.2, w10) (smh h) (cc rfl cn) rfl
  · intro x hx
    obtain ⟨s4, w5⟩ := x
    change OkX _ _ _ [(5, (Ty.own w5))] (rowL w5 22 1 ls_SSI s4 :: Item.blk g1 27 [(tI a0.Params), (tI a0.Regs), (tL 5 Block.ty a0.Blocks)] :: L)
    obtain rfl : s4 = z6 := hx.symm
    replace h := hz7
    refine okX_next ?_
    refine okC_seq ?_
    refine okC_region ?_
    refine okL_step 112 (Ty.own w5) rfl rfl (does_move rfl) ?_
    refine okL_step 2 (Ty.own w5) rfl rfl (does_assign rfl) ?_
    refine okL_nil ?_
    refine okX_next ?_
    refine okC_ret ?_
    obtain rfl := (smh h).symm
    refine okX_publish 0 [5, 112, 2] (Item.blk g1 27 [(tI a0.Params), (tI a0.Regs), (tL 5 Block.ty a0.Blocks)] :: L) rfl (ac rfl (ac rfl (ac rfl an))) rfl ?_
    refine okX_items [Item.blk g1 27 [(tI a0.Params), (tI a0.Regs), (tL 5 Block.ty a0.Blocks)]] (L) (pm 0 rfl (pr _)) ?_
    exact okX_ret1 () Tryd.results91 rfl rfl

def regalloc_UseCounts_l3 (K : Nat) (r35 : (List Int)) : Nat → (Int × (List Int)) → Option (List Int)
  | 0, _ => none
  | k + 1, s42 => (cnd (decide (s42.1 < ((r35).length : Int))) (Option.bind (idx r35 s42.1) (fun y45 => (Option.bind (idx s42.2 y45) (fun y47 => (Option.bind (idx s42.2 y45) (fun y49 => (regalloc_UseCounts_l3 K r35 k ((w64 (s42.1 + 1)), (s42.2.set y45.toNat (w64 (y47 + 1))))))))))) (some s42.2))

def regalloc_UseCounts_l4 (K : Nat) (r51 : (List Int)) : Nat → (Int × (List Int)) → Option (List Int)
  | 0, _ => none
  | k + 1, s58 => (cnd (decide (s58.1 < ((r51).length : Int))) (Option.bind (idx r51 s58.1) (fun y61 => (Option.bind (idx s58.2 y61) (fun y63 => (Option.bind (idx s58.2 y61) (fun y65 => (regalloc_UseCounts_l4 K r51 k ((w64 (s58.1 + 1)), (s58.2.set y61.toNat (w64 (y63 + 1))))))))))) (some s58.2))

def regalloc_UseCounts_l2 (K : Nat) (y21 : Block) : Nat → (Int × (List Int)) → Option (List Int)
  | 0, _ => none
  | k + 1, s29 => (cnd (decide (s29.1 < ((y21.Instrs).length : Int))) (Option.bind (idx y21.Instrs s29.1) (fun y32 => (Option.bind (vcode_Reads K y32) (fun r35 => (Option.bind (regalloc_UseCounts_l3 K r35 K (0, s29.2)) (fun s37 => (Option.bind (vcode_Writes y32) (fun r51 => (Option.bind (regalloc_UseCounts_l4 K r51 K (0, s37)) (fun s53 => (regalloc_UseCounts_l2 K y21 k ((w64 (s29.1 + 1)), s53)))))))))))) (some s29.2))

def regalloc_UseCounts_l1 (K : Nat) (a0 : VFunc) : Nat → (Int × (List Int)) → Option (List Int)
  | 0, _ => none
  | k + 1, s13 => (cnd (decide (s13.1 < ((a0.Blocks).length : Int))) (Option.bind (Option.bind (idx a0.Blocks s13.1) (fun y21 => (Option.bind (regalloc_UseCounts_l2 K y21 K (0, s13.2)) (fun s24 => (cnd ((y21.End == 2) || (y21.End == 3)) (Option.bind (idx s24 y21.Reg) (fun y69 => (Option.bind (idx s24 y21.Reg) (fun y71 => (some (s24.set y21.Reg.toNat (w64 (y69 + 1)))))))) (some s24)))))) (fun s16 => (regalloc_UseCounts_l1 K a0 k ((w64 (s13.1 + 1)), s16)))) (some s13.2))

def regalloc_UseCounts (K : Nat) (a0 : VFunc) : Option (List Int) :=
  (Option.bind (vcode_Valid K a0) (fun r2 => (cnd (!r2) (some ([] : List Int)) (Option.bind (mk 8 a0.Regs 0) (fun l5 => (Option.bind (regalloc_UseCounts_l1 K a0 K (0, l5)) (fun s8 => (some s8))))))))

theorem c_regalloc_UseCounts (K : Nat) (a0 : VFunc) (r : (List Int)) (h : regalloc_UseCounts K a0 = some r) : CallP Tryd.prog glob 52 [(Ty.agg [(tI a0.Params), (tI a0.Regs), (tL 5 Block.ty a0.Blocks)])] (tL 1 lI r) := by
  refine call_of_code Tryd.func52 rfl Tryd.ntmps52 rfl (fun L w => ?_)
  change OkC _ _ _ [(0, (Ty.agg [(tI a0.Params), (tI a0.Regs), (tL 5 Block.ty a0.Blocks)]))] (L)
  unfold regalloc_UseCounts at h
  refine okC_seq ?_
  refine okC_region ?_
  refine okL_stepO 1 rfl rfl (doesO_box [(tI a0.Params), (tI a0.Regs), (tL 5 Block.ty a0.Blocks)] rfl (part_agg _) (fun g1 => ?_))
  refine okL_step 2 (Ty.val (.slice none 0 0)) rfl rfl (does_assign rfl) ?_
  refine okL_nil ?_
  refine okX_next ?_
  refine okC_seq ?_
  refine okC_seq ?_
  refine okC_region ?_
  refine okL_step 12 (Ty.agg [(tI a0.Params), (tI a0.Regs), (tL 5 Block.ty a0.Blocks)]) rfl rfl (does_loadBA [(tI a0.Params), (tI a0.Regs), (tL 5 Block.ty a0.Blocks)] Tryd.isAgg27 Tryd.sizeOf27 rfl 0 rfl rfl rfl) ?_
  obtain ⟨r2, hc3, h⟩ := bs h
  refine okL_step 13 (tB r2) rfl rfl (does_call0 (c_vcode_Valid K a0 r2 hc3) rfl Tryd.call63 rfl) ?_
  refine okL_step 14 (tB (!r2)) rfl rfl (does_not rfl) ?_
  refine okL_nil ?_
  refine okX_next ?_
  refine okC_cond (b := (!r2)) rfl (fun hb4 => ?_) (fun hb4 => ?_)
  · replace h := ct hb4 h
    refine okC_seq ?_
    refine okC_region ?_
    refine okL_step 2 (Ty.val (.slice none 0 0)) rfl rfl (does_assign rfl) ?_
    refine okL_nil ?_
    refine okX_next ?_
    refine okC_ret ?_
    refine okX_then_ret ?_
    obtain rfl := (smh h).symm
    refine okX_sub 2 (tL 1 lI ([] : List Int)) rfl (sub_nil _) ?_
    refine okX_items [Item.blk g1 27 [(tI a0.Params), (tI a0.Regs), (tL 5 Block.ty a0.Blocks)]] (L) (pm 0 rfl (pr _)) ?_
    exact okX_ret1 () Tryd.results52 rfl rfl
  · replace h := cf hb4 h
    refine okC_skip ?_
    refine okX_next ?_
    refine okC_seq ?_
    refine okC_region ?_
    refine okL_step 15 (pAt g1 1) rfl rfl (does_fieldAddrP 1 Tryd.underlying27 rfl Tryd.sizeOf3 rfl rfl) ?_
    refine okL_step 16 (tI a0.Regs) rfl rfl (does_loadB1 Tryd.isAgg3 rfl 0 rfl rfl) ?_
    obtain ⟨l5, hm6, h⟩ := bs h
    refine okL_stepO 17 rfl rfl (doesO_make (f := lI) el31 0 l5 hm6 rfl rfl (part_one (one_val rfl)) (fun v7 => ?_))
    refine okL_step 3 (Ty.own v7) rfl rfl (does_assign rfl) ?_
    refine okL_nil ?_
    refine okX_next ?_
    refine okC_seq ?_
    refine okC_seq ?_
    refine okC_region ?_
    refine okL_step 18 (pAt g1 2) rfl rfl (does_fieldAddrP 2 Tryd.underlying27 rfl Tryd.sizeOf25 rfl rfl) ?_
    refine okL_step 19 (tL 5 Block.ty a0.Blocks) rfl rfl (does_loadB1 Tryd.isAgg25 rfl 1 rfl rfl) ?_
    refine okL_step 20 (tI ((a0.Blocks).length : Int)) rfl rfl (does_len (sz := 5) (f := Block.ty) (l := a0.Blocks) rfl Tryd.underlying25 rfl) ?_
    refine okL_step 21 (tI 0) rfl rfl (does_move rfl) ?_
    refine okL_nil ?_
    refine okX_next ?_
    obtain ⟨z10, h12, hz11⟩ := bs h
    refine okC_meetE (X := (List Int)) (fun x => z10 = x) (fun x : (List Int) => [(3, (Ty.own v7))]) (fun x : (List Int) => rowL v7 3 1 lI x :: Item.blk g1 27 [(tI a0.Params), (tI a0.Regs), (tL 5 Block.ty a0.Blocks)] :: L) ?_ ?_
    · refine okC_block ?_
      refine okC_loop (X := (Int × (List Int))) (fun k x => regalloc_UseCounts_l1 K a0 k x = some z10) (fun x : (Int × (List Int)) => [(3, (Ty.own v7)), (19, (tL 5 Block.ty a0.Blocks)), (20, (tI ((a0.Blocks).length : Int))), (21, (tI x.1))]) (fun x : (Int × (List Int)) => rowL v7 3 1 lI x.2 :: Item.blk g1 27 [(tI a0.Params), (tI a0.Regs), (tL 5 Block.ty a0.Blocks)] :: L) K (0, l5) h12 (cc rfl (cc rfl (cc rfl (cc rfl cn)))) rfl (fun k s13 hI => ?_)
      change OkC _ _ _ [(3, (Ty.own v7)), (19, (tL 5 Block.ty a0.Blocks)), (20, (tI ((a0.Blocks).length : Int))), (21, (tI s13.1))] (rowL v7 3 1 lI s13.2 :: Item.blk g1 27 [(tI a0.Params), (tI a0.Regs), (tL 5 Block.ty a0.Blocks)] :: L)
      cases k with
      | zero => exact (nz hI).elim
      | succ k =>
        have h : regalloc_UseCounts_l1 K a0 (k + 1) s13 = some z10 := hI
        rw [regalloc_UseCounts_l1.eq_2] at h
        refine okC_seq ?_
        refine okC_region ?_
        refine okL_step 22 (tB (decide (s13.1 < ((a0.Blocks).length : Int)))) rfl rfl (does_lss rfl rfl) ?_
        refine okL_nil ?_
        refine okX_next ?_
        refine okC_seq ?_
        refine okC_cond (b := (decide (s13.1 < ((a0.Blocks).length : Int)))) rfl (fun hb15 => ?_) (fun hb15 => ?_)
        · replace h := ct hb15 h
          refine okC_skip ?_
          refine okX_next ?_
          obtain ⟨z18, h20, hz19⟩ := bs h
          refine okC_meet (X := (List Int)) (fun x => z18 = x) (fun x : (List Int) => [(3, (Ty.own v7)), (19, (tL 5 Block.ty a0.Blocks)), (20, (tI ((a0.Blocks).length : Int))), (21, (tI s13.1))]) (fun x : (List Int) => rowL v7 3 1 lI x :: Item.blk g1 27 [(tI a0.Params), (tI a0.Regs), (tL 5 Block.ty a0.Blocks)] :: L) ?_ ?_
          · refine okC_block ?_
            refine okC_seq ?_
            refine okC_region ?_
            obtain ⟨y21, hi22, h20⟩ := bs h20
            refine okL_step 23 (Ty.ptr [(tL 6 VInstr.ty y21.Instrs), (tI y21.End), (tI y21.Reg), (tI y21.Target), (tI y21.Else)]) rfl rfl (does_index (sz := 5) (f := Block.ty) (l := a0.Blocks) (n := s13.1) y21 Tryd.underlying25 Tryd.sizeOf43 hi22 rfl rfl) ?_
            refine okL_step 24 (Ty.agg [(tL 6 VInstr.ty y21.Instrs), (tI y21.End), (tI y21.Reg), (tI y21.Target), (tI y21.Else)]) rfl rfl (does_loadA [(tL 6 VInstr.ty y21.Instrs), (tI y21.End), (tI y21.Reg), (tI y21.Target), (tI y21.Else)] Tryd.isAgg43 Tryd.sizeOf43 rfl rfl rfl) ?_
            refine okL_stepO 5 rfl rfl (doesO_alloc [(Ty.val (.slice none 0 0)), (tI 0), (tI 0), (tI 0), (tI 0)] Tryd.zeroValue43 (part_of (sub_agg [(.slice none 0 0), (.int .i64 0), (.int .i64 0), (.int .i64 0), (.int .i64 0)] rfl) (part_agg _)) (fun g23 => ?_))
            refine okL_stepU rfl (doesO_storeB (ps := [(tL 6 VInstr.ty y21.Instrs), (tI y21.End), (tI y21.Reg), (tI y21.Target), (tI y21.Else)]) 0 [(tL 6 VInstr.ty y21.Instrs), (tI y21.End), (tI y21.Reg), (tI y21.Target), (tI y21.Else)] (Item.blk g23 43 [(tL 6 VInstr.ty y21.Instrs), (tI y21.End), (tI y21.Reg), (tI y21.Target), (tI y21.Else)] :: rowL v7 3 1 lI s13.2 :: Item.blk g1 27 [(tI a0.Params), (tI a0.Regs), (tL 5 Block.ty a0.Blocks)] :: L) rfl rfl (part_agg _) Tryd.sizeOf43 rfl rfl rfl rfl ?_)
            refine okL_nil ?_
            refine okX_next ?_
            refine okC_seq ?_
            refine okC_seq ?_
            refine okC_region ?_
            refine okL_step 25 (pAt g23 0) rfl rfl (does_fieldAddrP 0 Tryd.underlying43 rfl Tryd.sizeOf41 rfl rfl) ?_
            refine okL_step 26 (tL 6 VInstr.ty y21.Instrs) rfl rfl (does_loadB1 Tryd.isAgg41 rfl 0 rfl rfl) ?_
            refine okL_step 27 (tI ((y21.Instrs).length : Int)) rfl rfl (does_len (sz := 6) (f := VInstr.ty) (l := y21.Instrs) rfl Tryd.underlying41 rfl) ?_
            refine okL_step 28 (tI 0) rfl rfl (does_move rfl) ?_
            refine okL_nil ?_
            refine okX_next ?_
            obtain ⟨z26, h28, hz27⟩ := bs h20
            refine okC_meetE (X := (List Int)) (fun x => z26 = x) (fun x : (List Int) => [(3, (Ty.own v7)), (5, (pAt g23 0)), (19, (tL 5 Block.ty a0.Blocks)), (20, (tI ((a0.Blocks).length : Int))), (21, (tI s13.1))]) (fun x : (List Int) => Item.blk g23 43 [(tL 6 VInstr.ty y21.Instrs), (tI y21.End), (tI y21.Reg), (tI y21.Target), (tI y21.Else)] :: rowL v7 3 1 lI x :: Item.blk g1 27 [(tI a0.Params), (tI a0.Regs), (tL 5 Block.ty a0.Blocks)] :: L) ?_ ?_
            · refine okC_block ?_
              refine okC_loop (X := (Int × (List Int))) (fun k x => regalloc_UseCounts_l2 K y21 k x = some z26) (fun x : (Int × (List Int)) => [(3, (Ty.own v7)), (5, (pAt g23 0)), (19, (tL 5 Block.ty a0.Blocks)), (20, (tI ((a0.Blocks).length : Int))), (21, (tI s13.1)), (26, (tL 6 VInstr.ty y21.Instrs)), (27, (tI ((y21.Instrs).length : Int))), (28, (tI x.1))]) (fun x : (Int × (List Int)) => Item.blk g23 43 [(tL 6 VInstr.ty y21.Instrs), (tI y21.End), (tI y21.Reg), (tI y21.Target), (tI y21.Else)] :: rowL v7 3 1 lI x.2 :: Item.blk g1 27 [(tI a0.Params), (tI a0.Regs), (tL 5 Block.ty a0.Blocks)] :: L) K (0, s13.2) h28 (cc rfl (cc rfl (cc rfl (cc rfl (cc rfl (cc rfl (cc rfl (cc rfl cn)))))))) rfl (fun k s29 hI => ?_)
              change OkC _ _ _ [(3, (Ty.own v7)), (5, (pAt g23 0)), (19, (tL 5 Block.ty a0.Blocks)), (20, (tI ((a0.Blocks).length : Int))), (21, (tI s13.1)), (26, (tL 6 VInstr.ty y21.Instrs)), (27, (tI ((y21.Instrs).length : Int))), (28, (tI s29.1))] (Item.blk g23 43 [(tL 6 VInstr.ty y21.Instrs), (tI y21.End), (tI y21.Reg), (tI y21.Target), (tI y21.Else)] :: rowL v7 3 1 lI s29.2 :: Item.blk g1 27 [(tI a0.Params), (tI a0.Regs), (tL 5 Block.ty a0.Blocks)] :: L)
              cases k with
              | zero => exact (nz hI).elim
              | succ k =>
                have h : regalloc_UseCounts_l2 K y21 (k + 1) s29 = some z26 := hI
                rw [regalloc_UseCounts_l2.eq_2] at h
                refine okC_seq ?_
                refine okC_region ?_
                refine okL_step 29 (tB (decide (s29.1 < ((y21.Instrs).length : Int)))) rfl rfl (does_lss rfl rfl) ?_
                refine okL_nil ?_
                refine okX_next ?_
                refine okC_seq ?_
                refine okC_cond (b := (decide (s29.1 < ((y21.Instrs).length : Int)))) rfl (fun hb31 => ?_) (fun hb31 => ?_)
                · replace h := ct hb31 h
                  refine okC_skip ?_
                  refine okX_next ?_
                  refine okC_seq ?_
                  refine okC_block ?_
                  refine okC_seq ?_
                  refine okC_region ?_
                  obtain ⟨y32, hi33, h⟩ := bs h
                  refine okL_step 30 (Ty.ptr [(tI y32.Instr.Op), (tI y32.Instr.A), (tI y32.Instr.B), (tI y32.Instr.C), (tI y32.Instr.N), (tL 1 lI y32.Args)]) rfl rfl (does_index (sz := 6) (f := VInstr.ty) (l := y21.Instrs) (n := s29.1) y32 Tryd.underlying41 Tryd.sizeOf48 hi33 rfl rfl) ?_
                  refine okL_step 31 (Ty.agg [(tI y32.Instr.Op), (tI y32.Instr.A), (tI y32.Instr.B), (tI y32.Instr.C), (tI y32.Instr.N), (tL 1 lI y32.Args)]) rfl rfl (does_loadA [(tI y32.Instr.Op), (tI y32.Instr.A), (tI y32.Instr.B), (tI y32.Instr.C), (tI y32.Instr.N), (tL 1 lI y32.Args)] Tryd.isAgg48 Tryd.sizeOf48 rfl rfl rfl) ?_
                  refine okL_stepO 7 rfl rfl (doesO_alloc [(tI 0), (tI 0), (tI 0), (tI 0), (tI 0), (Ty.val (.slice none 0 0))] Tryd.zeroValue48 (part_of (sub_agg [(.int .i64 0), (.int .i64 0), (.int .i64 0), (.int .i64 0), (.int .i64 0), (.slice none 0 0)] rfl) (part_agg _)) (fun g34 => ?_))
                  refine okL_stepU rfl (doesO_storeB (ps := [(tI y32.Instr.Op), (tI y32.Instr.A), (tI y32.Instr.B), (tI y32.Instr.C), (tI y32.Instr.N), (tL 1 lI y32.Args)]) 0 [(tI y32.Instr.Op), (tI y32.Instr.A), (tI y32.Instr.B), (tI y32.Instr.C), (tI y32.Instr.N), (tL 1 lI y32.Args)] (Item.blk g34 48 [(tI y32.Instr.Op), (tI y32.Instr.A), (tI y32.Instr.B), (tI y32.Instr.C), (tI y32.Instr.N), (tL 1 lI y32.Args)] :: Item.blk g23 43 [(tL 6 VInstr.ty y21.Instrs), (tI y21.End), (tI y21.Reg), (tI y21.Target), (tI y21.Else)] :: rowL v7 3 1 lI s29.2 :: Item.blk g1 27 [(tI a0.Params), (tI a0.Regs), (tL 5 Block.ty a0.Blocks)] :: L) rfl rfl (part_agg _) Tryd.sizeOf48 rfl rfl rfl rfl ?_)
                  refine okL_nil ?_
                  refine okX_next ?_
                  refine okC_seq ?_
                  refine okC_seq ?_
                  refine okC_region ?_
                  refine okL_step 32 (Ty.agg [(tI y32.Instr.Op), (tI y32.Instr.A), (tI y32.Instr.B), (tI y32.Instr.C), (tI y32.Instr.N), (tL 1 lI y32.Args)]) rfl rfl (does_loadBA [(tI y32.Instr.Op), (tI y32.Instr.A), (tI y32.Instr.B), (tI y32.Instr.C), (tI y32.Instr.N), (tL 1 lI y32.Args)] Tryd.isAgg48 Tryd.sizeOf48 rfl 0 rfl rfl rfl) ?_
                  obtain ⟨r35, hc36, h⟩ := bs h
                  refine okL_step 33 (tL 1 lI r35) rfl rfl (does_call0 (d_vcode_Reads K y32 r35 hc36) rfl Tryd.call95 rfl) ?_
                  refine okL_step 34 (tI ((r35).length : Int)) rfl rfl (does_len (sz := 1) (f := lI) (l := r35) rfl Tryd.underlying31 rfl) ?_
                  refine okL_step 35 (tI 0) rfl rfl (does_move rfl) ?_
                  refine okL_nil ?_
                  refine okX_next ?_
                  obtain ⟨z39, h41, hz40⟩ := bs h
                  refine okC_meetE (X := (List Int)) (fun x => z39 = x) (fun x : (List Int) => [(3, (Ty.own v7)), (5, (pAt g23 0)), (7, (pAt g34 0)), (19, (tL 5 Block.ty a0.Blocks)), (20, (tI ((a0.Blocks).length : Int))), (21, (tI s13.1)), (26, (tL 6 VInstr.ty y21.Instrs)), (27, (tI ((y21.Instrs).length : Int))), (28, (tI s29.1))]) (fun x : (List Int) => Item.blk g34 48 [(tI y32.Instr.Op), (tI y32.Instr.A), (tI y32.Instr.B), (tI y32.Instr.C), (tI y32.Instr.N), (tL 1 lI y32.Args)] :: Item.blk g23 43 [(tL 6 VInstr.ty y21.Instrs), (tI y21.End), (tI y21.Reg), (tI y21.Target), (tI y21.Else)] :: rowL v7 3 1 lI x :: Item.blk g1 27 [(tI a0.Params), (tI a0.Regs), (tL 5 Block.ty a0.Blocks)] :: L) ?_ ?_
                  · refine okC_block ?_
                    refine okC_loop (X := (Int × (List Int))) (fun k x => regalloc_UseCounts_l3 K r35 k x = some z39) (fun x : (Int × (List Int)) => [(3, (Ty.own v7)), (5, (pAt g23 0)), (7, (pAt g34 0)), (19, (tL 5 Block.ty a0.Blocks)), (20, (tI ((a0.Blocks).length : Int))), (21, (tI s13.1)), (26, (tL 6 VInstr.ty y21.Instrs)), (27, (tI ((y21.Instrs).length : Int))), (28, (tI s29.1)), (33, (tL 1 lI r35)), (34, (tI ((r35).length : Int))), (35, (tI x.1))]) (fun x : (Int × (List Int)) => Item.blk g34 48 [(tI y32.Instr.Op), (tI y32.Instr.A), (tI y32.Instr.B), (tI y32.Instr.C), (tI y32.Instr.N), (tL 1 lI y32.Args)] :: Item.blk g23 43 [(tL 6 VInstr.ty y21.Instrs), (tI y21.End), (tI y21.Reg), (tI y21.Target), (tI y21.Else)] :: rowL v7 3 1 lI x.2 :: Item.blk g1 27 [(tI a0.Params), (tI a0.Regs), (tL 5 Block.ty a0.Blocks)] :: L) K (0, s29.2) h41 (cc rfl (cc rfl (cc rfl (cc rfl (cc rfl (cc rfl (cc rfl (cc rfl (cc rfl (cc rfl (cc rfl (cc rfl cn)))))))))))) rfl (fun k s42 hI => ?_)
                    change OkC _ _ _ [(3, (Ty.own v7)), (5, (pAt g23 0)), (7, (pAt g34 0)), (19, (tL 5 Block.ty a0.Blocks)), (20, (tI ((a0.Blocks).length : Int))), (21, (tI s13.1)), (26, (tL 6 VInstr.ty y21.Instrs)), (27, (tI ((y21.Instrs).length : Int))), (28, (tI s29.1)), (33, (tL 1 lI r35)), (34, (tI ((r35).length : Int))), (35, (tI s42.1))] (Item.blk g34 48 [(tI y32.Instr.Op), (tI y32.Instr.A), (tI y32.Instr.B), (tI y32.Instr.C), (tI y32.Instr.N), (tL 1 lI y32.Args)] :: Item.blk g23 43 [(tL 6 VInstr.ty y21.Instrs), (tI y21.End), (tI y21.Reg), (tI y21.Target), (tI y21.Else)] :: rowL v7 3 1 lI s42.2 :: Item.blk g1 27 [(tI a0.Params), (tI a0.Regs), (tL 5 Block.ty a0.Blocks)] :: L)
                    cases k with
                    | zero => exact (nz hI).elim
                    | succ k =>
                      have h : regalloc_UseCounts_l3 K r35 (k + 1) s42 = some z39 := hI
                      rw [regalloc_UseCounts_l3.eq_2] at h
                      refine okC_seq ?_
                      refine okC_region ?_
                      refine okL_step 36 (tB (decide (s42.1 < ((r35).length : Int)))) rfl rfl (does_lss rfl rfl) ?_
                      refine okL_nil ?_
                      refine okX_next ?_
                      refine okC_seq ?_
                      refine okC_cond (b := (decide (s42.1 < ((r35).length : Int)))) rfl (fun hb44 => ?_) (fun hb44 => ?_)
                      · replace h := ct hb44 h
                        refine okC_skip ?_
                        refine okX_next ?_
                        refine okC_seq ?_
                        refine okC_block ?_
                        refine okC_seq ?_
                        refine okC_region ?_
                        obtain ⟨y45, hi46, h⟩ := bs h
                        refine okL_step 37 (Ty.ptr [(tI y45)]) rfl rfl (does_index (sz := 1) (f := lI) (l := r35) (n := s42.1) y45 Tryd.underlying31 Tryd.sizeOf3 hi46 rfl rfl) ?_
                        refine okL_step 38 (tI y45) rfl rfl (does_load1 Tryd.isAgg3 rfl) ?_
                        refine okL_step 9 (tI y45) rfl rfl (does_assign rfl) ?_
                        refine okL_nil ?_
                        refine okX_next ?_
                        refine okC_region ?_
                        refine okL_step 39 (Ty.own v7) rfl rfl (does_move rfl) ?_
                        refine okL_step 40 (tI y45) rfl rfl (does_move rfl) ?_
                        obtain ⟨y47, hi48, h⟩ := bs h
                        refine okL_step 41 (Ty.rptr v7 (y45.toNat * 1)) rfl rfl (does_indexR (f := lI) (l := s42.2) (m := y45) el31 2 y47 hi48 rfl rfl rfl) ?_
                        refine okL_step 42 (tI y47) rfl rfl (does_loadR1 (sz := 1) (f := lI) (l := s42.2) 2 y47 0 Tryd.isAgg3 hi48 rfl rfl rfl) ?_
                        refine okL_step 43 (tI (w64 (y47 + 1))) rfl rfl (does_add rfl rfl) ?_
                        obtain ⟨y49, hi50, h⟩ := bs h
                        refine okL_step 44 (Ty.rptr v7 (y45.toNat * 1)) rfl rfl (does_indexR (f := lI) (l := s42.2) (m := y45) el31 2 y49 hi50 rfl rfl rfl) ?_
                        refine okL_stepU rfl (doesO_storeR (f := lI) (l := s42.2) (sz := 1) (ps := [(tI (w64 (y47 + 1)))]) (y0 := y49) (y1 := (w64 (y47 + 1))) (m := y45) 2 0 (s42.2.set y45.toNat (w64 (y47 + 1))) (Item.blk g34 48 [(tI y32.Instr.Op), (tI y32.Instr.A), (tI y32.Instr.B), (tI y32.Instr.C), (tI y32.Instr.N), (tL 1 lI y32.Args)] :: Item.blk g23 43 [(tL 6 VInstr.ty y21.Instrs), (tI y21.End), (tI y21.Reg), (tI y21.Target), (tI y21.Else)] :: rowL v7 3 1 lI (s42.2.set y45.toNat (w64 (y47 + 1))) :: Item.blk g1 27 [(tI a0.Params), (tI a0.Regs), (tL 5 Block.ty a0.Blocks)] :: L) rfl rfl (part_one (one_i _)) Tryd.sizeOf3 rfl hi50 rfl rfl rfl rfl rfl ?_)
                        refine okL_nil ?_
                        refine okX_block_normal ?_
                        refine okX_next ?_
                        refine okC_region ?_
                        refine okL_step 45 (tI (w64 (s42.1 + 1))) rfl rfl (does_add rfl rfl) ?_
                        refine okL_step 35 (tI (w64 (s42.1 + 1))) rfl rfl (does_move rfl) ?_
                        refine okL_nil ?_
                        exact okX_again k (Nat.lt_succ_self k) ((w64 (s42.1 + 1)), (s42.2.set y45.toNat (w64 (y47 + 1)))) h (cc rfl (cc rfl (cc rfl (cc rfl (cc rfl (cc rfl (cc rfl (cc rfl (cc rfl (cc rfl (cc rfl (cc rfl cn)))))))))))) rfl
                      · replace h := cf hb44 h
                        refine okC_exit ?_
                        refine okX_then_exit ?_
                        refine okX_again_exit ?_
                        refine okX_block_hit ?_
                        exact okX_meet (I := _) s42.2 (smh h) (cc rfl (cc rfl (cc rfl (cc rfl (cc rfl (cc rfl (cc rfl (cc rfl (cc rfl cn))))))))) rfl
                  · intro s37 hx
                    change OkX _ _ _ [(3, (Ty.own v7)), (5, (pAt g23 0)), (7, (pAt g34 0)), (19, (tL 5 Block.ty a0.Blocks)), (20, (tI ((a0.Blocks).length : Int))), (21, (tI s13.1)), (26, (tL 6 VInstr.ty y21.Instrs)), (27, (tI ((y21.Instrs).length : Int))), (28, (tI s29.1))] (Item.blk g34 48 [(tI y32.Instr.Op), (tI y32.Instr.A), (tI y32.Instr.B), (tI y32.Instr.C), (tI y32.Instr.N), (tL 1 lI y32.Args)] :: Item.blk g23 43 [(tL 6 VInstr.ty y21.Instrs), (tI y21.End), (tI y21.Reg), (tI y21.Target), (tI y21.Else)] :: rowL v7 3 1 lI s37 :: Item.blk g1 27 [(tI a0.Params), (tI a0.Regs), (tL 5 Block.ty a0.Blocks)] :: L)
                    obtain rfl : s37 = z39 := hx.symm
                    replace h := hz40
                    refine okX_next ?_
                    refine okC_seq ?_
                    refine okC_region ?_
                    refine okL_step 46 (Ty.agg [(tI y32.Instr.Op), (tI y32.Instr.A), (tI y32.Instr.B), (tI y32.Instr.C), (tI y32.Instr.N), (tL 1 lI y32.Args)]) rfl rfl (does_loadBA [(tI y32.Instr.Op), (tI y32.Instr.A), (tI y32.Instr.B), (tI y32.Instr.C), (tI y32.Instr.N), (tL 1 lI y32.Args)] Tryd.isAgg48 Tryd.sizeOf48 rfl 0 rfl rfl rfl) ?_
                    obtain ⟨r51, hc52, h⟩ := bs h
                    refine okL_step 47 (tL 1 lI r51) rfl rfl (does_call0 (c_vcode_Writes y32 r51 hc52) rfl Tryd.call96 rfl) ?_
                    refine okL_step 48 (tI ((r51).length : Int)) rfl rfl (does_len (sz := 1) (f := lI) (l := r51) rfl Tryd.underlying31 rfl) ?_
                    refine okL_step 49 (tI 0) rfl rfl (does_move rfl) ?_
                    refine okL_nil ?_
                    refine okX_next ?_
                    obtain ⟨z55, h57, hz56⟩ := bs h
                    refine okC_meetE (X := (List Int)) (fun x => z55 = x) (fun x : (List Int) => [(3, (Ty.own v7)), (5, (pAt g23 0)), (19, (tL 5 Block.ty a0.Blocks)), (20, (tI ((a0.Blocks).length : Int))), (21, (tI s13.1)), (26, (tL 6 VInstr.ty y21.Instrs)), (27, (tI ((y21.Instrs).length : Int))), (28, (tI s29.1))]) (fun x : (List Int) => Item.blk g34 48 [(tI y32.Instr.Op), (tI y32.Instr.A), (tI y32.Instr.B), (tI y32.Instr.C), (tI y32.Instr.N), (tL 1 lI y32.Args)] :: Item.blk g23 43 [(tL 6 VInstr.ty y21.Instrs), (tI y21.End), (tI y21.Reg), (tI y21.Target), (tI y21.Else)] :: rowL v7 3 1 lI x :: Item.blk g1 27 [(tI a0.Params), (tI a0.Regs), (tL 5 Block.ty a0.Blocks)] :: L) ?_ ?_
                    · refine okC_block ?_
                      refine okC_loop (X := (Int × (List Int))) (fun k x => regalloc_UseCounts_l4 K r51 k x = some z55) (fun x : (Int × (List Int)) => [(3, (Ty.own v7)), (5, (pAt g23 0)), (19, (tL 5 Block.ty a0.Blocks)), (20, (tI ((a0.Blocks).length : Int))), (21, (tI s13.1)), (26, (tL 6 VInstr.ty y21.Instrs)), (27, (tI ((y21.Instrs).length : Int))), (28, (tI s29.1)), (47, (tL 1 lI r51)), (48, (tI ((r51).length : Int))), (49, (tI x.1))]) (fun x : (Int × (List Int)) => Item.blk g34 48 [(tI y32.Instr.Op), (tI y32.Instr.A), (tI y32.Instr.B), (tI y32.Instr.C), (tI y32.Instr.N), (tL 1 lI y32.Args)] :: Item.blk g23 43 [(tL 6 VInstr.ty y21.Instrs), (tI y21.End), (tI y21.Reg), (tI y21.Target), (tI y21.Else)] :: rowL v7 3 1 lI x.2 :: Item.blk g1 27 [(tI a0.Params), (tI a0.Regs), (tL 5 Block.ty a0.Blocks)] :: L) K (0, s37) h57 (cc rfl (cc rfl (cc rfl (cc rfl (cc rfl (cc rfl (cc rfl (cc rfl (cc rfl (cc rfl (cc rfl cn))))))))))) rfl (fun k s58 hI => ?_)
                      change OkC _ _ _ [(3, (Ty.own v7)), (5, (pAt g23 0)), (19, (tL 5 Block.ty a0.Blocks)), (20, (tI ((a0.Blocks).length : Int))), (21, (tI s13.1)), (26, (tL 6 VInstr.ty y21.Instrs)), (27, (tI ((y21.Instrs).length : Int))), (28, (tI s29.1)), (47, (tL 1 lI r51)), (48, (tI ((r51).length : Int))), (49, (tI s58.1))] (Item.blk g34 48 [(tI y32.Instr.Op), (tI y32.Instr.A), (tI y32.Instr.B), (tI y32.Instr.C), (tI y32.Instr.N), (tL 1 lI y32.Args)] :: Item.blk g23 43 [(tL 6 VInstr.ty y21.Instrs), (tI y21.End), (tI y21.Reg), (tI y21.Target), (tI y21.Else)] :: rowL v7 3 1 lI s58.2 :: Item.blk g1 27 [(tI a0.Params), (tI a0.Regs), (tL 5 Block.ty a0.Blocks)] :: L)
                      cases k with
                      | zero => exact (nz hI).elim
                      | succ k =>
                        have h : regalloc_UseCounts_l4 K r51 (k + 1) s58 = some z55 := hI
                        rw [regalloc_UseCounts_l4.eq_2] at h
                        refine okC_seq ?_
                        refine okC_region ?_
                        refine okL_step 50 (tB (decide (s58.1 < ((r51).length : Int)))) rfl rfl (does_lss rfl rfl) ?_
                        refine okL_nil ?_
                        refine okX_next ?_
                        refine okC_seq ?_
                        refine okC_cond (b := (decide (s58.1 < ((r51).length : Int)))) rfl (fun hb60 => ?_) (fun hb60 => ?_)
                        · replace h := ct hb60 h
                          refine okC_skip ?_
                          refine okX_next ?_
                          refine okC_seq ?_
                          refine okC_block ?_
                          refine okC_seq ?_
                          refine okC_region ?_
                          obtain ⟨y61, hi62, h⟩ := bs h
                          refine okL_step 51 (Ty.ptr [(tI y61)]) rfl rfl (does_index (sz := 1) (f := lI) (l := r51) (n := s58.1) y61 Tryd.underlying31 Tryd.sizeOf3 hi62 rfl rfl) ?_
                          refine okL_step 52 (tI y61) rfl rfl (does_load1 Tryd.isAgg3 rfl) ?_
                          refine okL_step 11 (tI y61) rfl rfl (does_assign rfl) ?_
                          refine okL_nil ?_
                          refine okX_next ?_
                          refine okC_region ?_
                          refine okL_step 53 (Ty.own v7) rfl rfl (does_move rfl) ?_
                          refine okL_step 54 (tI y61) rfl rfl (does_move rfl) ?_
                          obtain ⟨y63, hi64, h⟩ := bs h
                          refine okL_step 55 (Ty.rptr v7 (y61.toNat * 1)) rfl rfl (does_indexR (f := lI) (l := s58.2) (m := y61) el31 2 y63 hi64 rfl rfl rfl) ?_
                          refine okL_step 56 (tI y63) rfl rfl (does_loadR1 (sz := 1) (f := lI) (l := s58.2) 2 y63 0 Tryd.isAgg3 hi64 rfl rfl rfl) ?_
                          refine okL_step 57 (tI (w64 (y63 + 1))) rfl rfl (does_add rfl rfl) ?_
                          obtain ⟨y65, hi66, h⟩ := bs h
                          refine okL_step 58 (Ty.rptr v7 (y61.toNat * 1)) rfl rfl (does_indexR (f := lI) (l := s58.2) (m := y61) el31 2 y65 hi66 rfl rfl rfl) ?_
                          refine okL_stepU rfl (doesO_storeR (f := lI) (l := s58.2) (sz := 1) (ps := [(tI (w64 (y63 + 1)))]) (y0 := y65) (y1 := (w64 (y63 + 1))) (m := y61) 2 0 (s58.2.set y61.toNat (w64 (y63 + 1))) (Item.blk g34 48 [(tI y32.Instr.Op), (tI y32.Instr.A), (tI y32.Instr.B), (tI y32.Instr.C), (tI y32.Instr.N), (tL 1 lI y32.Args)] :: Item.blk g23 43 [(tL 6 VInstr.ty y21.Instrs), (tI y21.End), (tI y21.Reg), (tI y21.Target), (tI y21.Else)] :: rowL v7 3 1 lI (s58.2.set y61.toNat (w64 (y63 + 1))) :: Item.blk g1 27 [(tI a0.Params), (tI a0.Regs), (tL 5 Block.ty a0.Blocks)] :: L) rfl rfl (part_one (one_i _)) Tryd.sizeOf3 rfl hi66 rfl rfl rfl rfl rfl ?_)
                          refine okL_nil ?_
                          refine okX_block_normal ?_
                          refine okX_next ?_
                          refine okC_region ?_
                          refine okL_step 59 (tI (w64 (s58.1 + 1))) rfl rfl (does_add rfl rfl) ?_
                          refine okL_step 49 (tI (w64 (s58.1 + 1))) rfl rfl (does_move rfl) ?_
                          refine okL_nil ?_
                          exact okX_again k (Nat.lt_succ_self k) ((w64 (s58.1 + 1)), (s58.2.set y61.toNat (w64 (y63 + 1)))) h (cc rfl (cc rfl (cc rfl (cc rfl (cc rfl (cc rfl (cc rfl (cc rfl (cc rfl (cc rfl (cc rfl cn))))))))))) rfl
                        · replace h := cf hb60 h
                          refine okC_exit ?_
                          refine okX_then_exit ?_
                          refine okX_again_exit ?_
                          refine okX_block_hit ?_
                          exact okX_meet (I := _) s58.2 (smh h) (cc rfl (cc rfl (cc rfl (cc rfl (cc rfl (cc rfl (cc rfl (cc rfl cn)))))))) rfl
                    · intro s53 hx
                      change OkX _ _ _ [(3, (Ty.own v7)), (5, (pAt g23 0)), (19, (tL 5 Block.ty a0.Blocks)), (20, (tI ((a0.Blocks).length : Int))), (21, (tI s13.1)), (26, (tL 6 VInstr.ty y21.Instrs)), (27, (tI ((y21.Instrs).length : Int))), (28, (tI s29.1))] (Item.blk g34 48 [(tI y32.Instr.Op), (tI y32.Instr.A), (tI y32.Instr.B), (tI y32.Instr.C), (tI y32.Instr.N), (tL 1 lI y32.Args)] :: Item.blk g23 43 [(tL 6 VInstr.ty y21.Instrs), (tI y21.End), (tI y21.Reg), (tI y21.Target), (tI y21.Else)] :: rowL v7 3 1 lI s53 :: Item.blk g1 27 [(tI a0.Params), (tI a0.Regs), (tL 5 Block.ty a0.Blocks)] :: L)
                      obtain rfl : s53 = z55 := hx.symm
                      replace h := hz56
                      refine okX_block_normal ?_
                      refine okX_next ?_
                      refine okC_region ?_
                      refine okL_step 60 (tI (w64 (s29.1 + 1))) rfl rfl (does_add rfl rfl) ?_
                      refine okL_step 28 (tI (w64 (s29.1 + 1))) rfl rfl (does_move rfl) ?_
                      refine okL_nil ?_
                      refine okX_items [Item.blk g34 48 [(tI y32.Instr.Op), (tI y32.Instr.A), (tI y32.Instr.B), (tI y32.Instr.C), (tI y32.Instr.N), (tL 1 lI y32.Args)]] (Item.blk g23 43 [(tL 6 VInstr.ty y21.Instrs), (tI y21.End), (tI y21.Reg), (tI y21.Target), (tI y21.Else)] :: rowL v7 3 1 lI s53 :: Item.blk g1 27 [(tI a0.Params), (tI a0.Regs), (tL 5 Block.ty a0.Blocks)] :: L) (pm 0 rfl (pm 0 rfl (pm 0 rfl (pm 0 rfl (pr _))))) ?_
                      exact okX_again k (Nat.lt_succ_self k) ((w64 (s29.1 + 1)), s53) h (cc rfl (cc rfl (cc rfl (cc rfl (cc rfl (cc rfl (cc rfl (cc rfl cn)))))))) rfl
                · replace h := cf hb31 h
                  refine okC_exit ?_
                  refine okX_then_exit ?_
                  refine okX_again_exit ?_
                  refine okX_block_hit ?_
                  exact okX_meet (I := _) s29.2 (smh h) (cc rfl (cc rfl (cc rfl (cc rfl (cc rfl cn))))) rfl
            · intro s24 hx
              change OkX _ _ _ [(3, (Ty.own v7)), (5, (pAt g23 0)), (19, (tL 5 Block.ty a0.Blocks)), (20, (tI ((a0.Blocks).length : Int))), (21, (tI s13.1))] (Item.blk g23 43 [(tL 6 VInstr.ty y21.Instrs), (tI y21.End), (tI y21.Reg), (tI y21.Target), (tI y21.Else)] :: rowL v7 3 1 lI s24 :: Item.blk g1 27 [(tI a0.Params), (tI a0.Regs), (tL 5 Block.ty a0.Blocks)] :: L)
              obtain rfl : s24 = z26 := hx.symm
              replace h20 := hz27
              refine okX_next ?_
              refine okC_seq ?_
              refine okC_region ?_
              refine okL_step 61 (pAt g23 1) rfl rfl (does_fieldAddrP 1 Tryd.underlying43 rfl Tryd.sizeOf3 rfl rfl) ?_
              refine okL_step 62 (tI y21.End) rfl rfl (does_loadB1 Tryd.isAgg3 rfl 0 rfl rfl) ?_
              refine okL_step 63 (tB (y21.End == 2)) rfl rfl (does_eql rfl rfl) ?_
              refine okL_step 64 (tB (y21.End == 2)) rfl rfl (does_move rfl) ?_
              refine okL_meet (X := Bool) 4 (fun x => x = ((y21.End == 2) || (y21.End == 3))) (fun x : Bool => [(3, (Ty.own v7)), (5, (pAt g23 0)), (19, (tL 5 Block.ty a0.Blocks)), (20, (tI ((a0.Blocks).length : Int))), (21, (tI s13.1)), (68, (tB x))]) (fun x : Bool => Item.blk g23 43 [(tL 6 VInstr.ty y21.Instrs), (tI y21.End), (tI y21.Reg), (tI y21.Target), (tI y21.Else)] :: rowL v7 3 1 lI s24 :: Item.blk g1 27 [(tI a0.Params), (tI a0.Regs), (tL 5 Block.ty a0.Blocks)] :: L) _ rfl ?_ ?_
              · refine okL_split (y21.End == 2) (fun hb67 => ?_) (fun hb67 => ?_)
                · refine okL_skip 65 64 (y21.End == 2) rfl rfl hb67 rfl rfl ?_
                  refine okL_skip 66 64 (y21.End == 2) rfl rfl hb67 rfl rfl ?_
                  refine okL_skip 67 64 (y21.End == 2) rfl rfl hb67 rfl rfl ?_
                  refine okL_step 68 (tB true) rfl rfl (does_pick_t (y21.End == 2) rfl hb67 rfl) ?_
                  refine okL_nil ?_
                  exact okX_meet (I := _) true (or_t hb67) (cc rfl (cc rfl (cc rfl (cc rfl (cc rfl (cc rfl cn)))))) rfl
                · refine okL_guard 65 (pAt g23 1) 64 (y21.End == 2) rfl rfl hb67 rfl rfl (does_fieldAddrP 1 Tryd.underlying43 rfl Tryd.sizeOf3 rfl rfl) ?_
                  refine okL_guard 66 (tI y21.End) 64 (y21.End == 2) rfl rfl hb67 rfl rfl (does_loadB1 Tryd.isAgg3 rfl 0 rfl rfl) ?_
                  refine okL_guard 67 (tB (y21.End == 3)) 64 (y21.End == 2) rfl rfl hb67 rfl rfl (does_eql rfl rfl) ?_
                  refine okL_step 68 (tB (y21.End == 3)) rfl rfl (does_pick_f (y21.End == 2) rfl hb67 rfl) ?_
                  refine okL_nil ?_
                  exact okX_meet (I := _) (y21.End == 3) (or_f hb67) (cc rfl (cc rfl (cc rfl (cc rfl (cc rfl (cc rfl cn)))))) rfl
              · intro x73 hx
                subst hx
                change OkL _ _ _ _ [(3, (Ty.own v7)), (5, (pAt g23 0)), (19, (tL 5 Block.ty a0.Blocks)), (20, (tI ((a0.Blocks).length : Int))), (21, (tI s13.1)), (68, (tB ((y21.End == 2) || (y21.End == 3))))] (Item.blk g23 43 [(tL 6 VInstr.ty y21.Instrs), (tI y21.End), (tI y21.Reg), (tI y21.Target), (tI y21.Else)] :: rowL v7 3 1 lI s24 :: Item.blk g1 27 [(tI a0.Params), (tI a0.Regs), (tL 5 Block.ty a0.Blocks)] :: L)
                refine okL_nil ?_
                refine okX_next ?_
                refine okC_cond (b := ((y21.End == 2) || (y21.End == 3))) rfl (fun hb68 => ?_) (fun hb68 => ?_)
                · replace h20 := ct hb68 h20
                  refine okC_region ?_
                  refine okL_step 69 (Ty.own v7) rfl rfl (does_move rfl) ?_
                  refine okL_step 70 (pAt g23 2) rfl rfl (does_fieldAddrP 2 Tryd.underlying43 rfl Tryd.sizeOf3 rfl rfl) ?_
                  refine okL_step 71 (tI y21.Reg) rfl rfl (does_loadB1 Tryd.isAgg3 rfl 0 rfl rfl) ?_
                  obtain ⟨y69, hi70, h20⟩ := bs h20
                  refine okL_step 72 (Ty.rptr v7 (y21.Reg.toNat * 1)) rfl rfl (does_indexR (f := lI) (l := s24) (m := y21.Reg) el31 1 y69 hi70 rfl rfl rfl) ?_
                  refine okL_step 73 (tI y69) rfl rfl (does_loadR1 (sz := 1) (f := lI) (l := s24) 1 y69 0 Tryd.isAgg3 hi70 rfl rfl rfl) ?_
                  refine okL_step 74 (tI (w64 (y69 + 1))) rfl rfl (does_add rfl rfl) ?_
                  obtain ⟨y71, hi72, h20⟩ := bs h20
                  refine okL_step 75 (Ty.rptr v7 (y21.Reg.toNat * 1)) rfl rfl (does_indexR (f := lI) (l := s24) (m := y21.Reg) el31 1 y71 hi72 rfl rfl rfl) ?_
                  refine okL_stepU rfl (doesO_storeR (f := lI) (l := s24) (sz := 1) (ps := [(tI (w64 (y69 + 1)))]) (y0 := y71) (y1 := (w64 (y69 + 1))) (m := y21.Reg) 1 0 (s24.set y21.Reg.toNat (w64 (y69 + 1))) (Item.blk g23 43 [(tL 6 VInstr.ty y21.Instrs), (tI y21.End), (tI y21.Reg), (tI y21.Target), (tI y21.Else)] :: rowL v7 3 1 lI (s24.set y21.Reg.toNat (w64 (y69 + 1))) :: Item.blk g1 27 [(tI a0.Params), (tI a0.Regs), (tL 5 Block.ty a0.Blocks)] :: L) rfl rfl (part_one (one_i _)) Tryd.sizeOf3 rfl hi72 rfl rfl rfl rfl rfl ?_)
                  refine okL_nil ?_
                  refine okX_block_normal ?_
                  refine okX_items [Item.blk g23 43 [(tL 6 VInstr.ty y21.Instrs), (tI y21.End), (tI y21.Reg), (tI y21.Target), (tI y21.Else)]] (rowL v7 3 1 lI (s24.set y21.Reg.toNat (w64 (y69 + 1))) :: Item.blk g1 27 [(tI a0.Params), (tI a0.Regs), (tL 5 Block.ty a0.Blocks)] :: L) (pm 0 rfl (pm 0 rfl (pm 0 rfl (pr _)))) ?_
                  exact okX_meet (I := _) (s24.set y21.Reg.toNat (w64 (y69 + 1))) (smh h20) (cc rfl (cc rfl (cc rfl (cc rfl cn)))) rfl
                · replace h20 := cf hb68 h20
                  refine okC_skip ?_
                  refine okX_block_normal ?_
                  refine okX_items [Item.blk g23 43 [(tL 6 VInstr.ty y21.Instrs), (tI y21.End), (tI y21.Reg), (tI y21.Target), (tI y21.Else)]] (rowL v7 3 1 lI s24 :: Item.blk g1 27 [(tI a0.Params), (tI a0.Regs), (tL 5 Block.ty a0.Blocks)] :: L) (pm 0 rfl (pm 0 rfl (pm 0 rfl (pr _)))) ?_
                  exact okX_meet (I := _) s24 (smh h20) (cc rfl (cc rfl (cc rfl (cc rfl cn)))) rfl
          · intro s16 hx
            change OkC _ _ _ [(3, (Ty.own v7)), (19, (tL 5 Block.ty a0.Blocks)), (20, (tI ((a0.Blocks).length : Int))), (21, (tI s13.1))] (rowL v7 3 1 lI s16 :: Item.blk g1 27 [(tI a0.Params), (tI a0.Regs), (tL 5 Block.ty a0.Blocks)] :: L)
            obtain rfl : s16 = z18 := hx.symm
            replace h := hz19
            refine okC_region ?_
            refine okL_step 76 (tI (w64 (s13.1 + 1))) rfl rfl (does_add rfl rfl) ?_
            refine okL_step 21 (tI (w64 (s13.1 + 1))) rfl rfl (does_move rfl) ?_
            refine okL_nil ?_
            exact okX_again k (Nat.lt_succ_self k) ((w64 (s13.1 + 1)), s16) h (cc rfl (cc rfl (cc rfl (cc rfl cn)))) rfl
        · replace h := cf hb15 h
          refine okC_exit ?_
          refine okX_then_exit ?_
          refine okX_again_exit ?_
          refine okX_block_hit ?_
          exact okX_meet (I := _) s13.2 (smh h) (cc rfl cn) rfl
    · intro s8 hx
      change OkX _ _ _ [(3, (Ty.own v7))] (rowL v7 3 1 lI s8 :: Item.blk g1 27 [(tI a0.Params), (tI a0.Regs), (tL 5 Block.ty a0.Blocks)] :: L)
      obtain rfl : s8 = z10 := hx.symm
      replace h := hz11
      refine okX_next ?_
      refine okC_seq ?_
      refine okC_region ?_
      refine okL_step 77 (Ty.own v7) rfl rfl (does_move rfl) ?_
      refine okL_step 2 (Ty.own v7) rfl rfl (does_assign rfl) ?_
      refine okL_nil ?_
      refine okX_next ?_
      refine okC_ret ?_
      obtain rfl := (smh h).symm
      refine okX_publish 0 [3, 77, 2] (Item.blk g1 27 [(tI a0.Params), (tI a0.Regs), (tL 5 Block.ty a0.Blocks)] :: L) rfl (ac rfl (ac rfl (ac rfl an))) rfl ?_
      refine okX_items [Item.blk g1 27 [(tI a0.Params), (tI a0.Regs), (tL 5 Block.ty a0.Blocks)]] (L) (pm 0 rfl (pr _)) ?_
      exact okX_ret1 () Tryd.results52 rfl rfl

def regalloc_Interference_l1 (K : Nat) (a0 : VFunc) (l5 : (List (List Int))) : Nat → (Int × (List (List Int))) → Option (List (List Int))
  | 0, _ => none
  | k + 1, s16 => (cnd (decide (s16.1 < ((l5).length : Int))) (Option.bind (mk 8 (w64 (Int.tdiv (w64 (a0.Regs + 63)) 64)) 0) (fun l19 => (Option.bind (idx s16.2 s16.1) (fun y22 => (regalloc_Interference_l1 K a0 l5 k ((w64 (s16.1 + 1)), (s16.2.set s16.1.toNat l19))))))) (some s16.2))

def regalloc_Interference_l5 (K : Nat) (y47 : VInstr) (y60 : Int) (y64 : (List Int)) : Nat → (Int × (List (List Int))) → Option (List (List Int))
  | 0, _ => none
  | k + 1, s71 => (cnd (decide (s71.1 < ((y64).length : Int))) (Option.bind (Option.bind (idx y64 s71.1) (fun y79 => (cnd ((y79 != y60) && (!((y47.Instr.Op == 10) && (y79 == y47.Instr.B)))) (Option.bind (regalloc_Interference_1 y60 y79 s71.2) (fun r85 => (some r85))) (some s71.2)))) (fun s74 => (regalloc_Interference_l5 K y47 y60 y64 k ((w64 (s71.1 + 1)), s74)))) (some s71.2))

def regalloc_Interference_l4 (K : Nat) (r26 : (List (List (List Int)))) (s33 : (Int × (List (List Int)))) (s44 : (Int × (List (List Int)))) (y47 : VInstr) (r50 : (List Int)) : Nat → (Int × (List (List Int))) → Option (List (List Int))
  | 0, _ => none
  | k + 1, s57 => (cnd (decide (s57.1 < ((r50).length : Int))) (Option.bind (idx r50 s57.1) (fun y60 => (Option.bind (idx r26 s33.1) (fun y62 => (Option.bind (idx y62 (w64 (s44.1 + 1))) (fun y64 => (Option.bind (regalloc_Interference_l5 K y47 y60 y64 K (0, s57.2)) (fun s66 => (regalloc_Interference_l4 K r26 s33 s44 y47 r50 k ((w64 (s57.1 + 1)), s66)))))))))) (some s57.2))

def regalloc_Interference_l3 (K : Nat) (r26 : (List (List (List Int)))) (s33 : (Int × (List (List Int)))) (y36 : Block) : Nat → (Int × (List (List Int))) → Option (List (List Int))
  | 0, _ => none
  | k + 1, s44 => (cnd (decide (s44.1 < ((y36.Instrs).length : Int))) (Option.bind (idx y36.Instrs s44.1) (fun y47 => (Option.bind (vcode_Writes y47) (fun r50 => (Option.bind (regalloc_Interference_l4 K r26 s33 s44 y47 r50 K (0, s44.2)) (fun s52 => (regalloc_Interference_l3 K r26 s33 y36 k ((w64 (s44.1 + 1)), s52)))))))) (some s44.2))

def regalloc_Interference_l2 (K : Nat) (a0 : VFunc) (r26 : (List (List (List Int)))) : Nat → (Int × (List (List Int))) → Option (List (List Int))
  | 0, _ => none
  | k + 1, s33 => (cnd (decide (s33.1 < ((a0.Blocks).length : Int))) (Option.bind (idx a0.Blocks s33.1) (fun y36 => (Option.bind (regalloc_Interference_l3 K r26 s33 y36 K (0, s33.2)) (fun s39 => (regalloc_Interference_l2 K a0 r26 k ((w64 (s33.1 + 1)), s39)))))) (some s33.2))

def regalloc_Interference_l7 (K : Nat) (a0 : VFunc) (s98 : (Int × (List (List Int)) × (List (List Int)))) : Nat → (Int × (List (List Int)) × (List (List Int))) → Option ((List (List Int)) × (List (List Int)))
  | 0, _ => none
  | k + 1, s106 => (cnd (decide (s106.1 < a0.Regs)) (Option.bind (Option.bind (idx s106.2.2 s98.1) (fun y114 => (Option.bind (idx y114 (w64 (Int.tdiv s106.1 64))) (fun y118 => (cnd ((bAnd .u64 (bShr .u64 y118 (u64 (Int.tmod s106.1 64))) 1) == 1) (Option.bind (idx s106.2.1 s98.1) (fun y121 => (Option.bind (app 8 y121 ([s106.1] : List Int)) (fun l125 => (some ((s106.2.1.set s98.1.toNat l125), (s106.2.2.set s98.1.toNat y114))))))) (some (s106.2.1, (s106.2.2.set s98.1.toNat y114)))))))) (fun s109 => (regalloc_Interference_l7 K a0 s98 k ((w64 (s106.1 + 1)), s109.1, s109.2)))) (some (s106.2.1, s106.2.2)))

def regalloc_Interference_l6 (K : Nat) (a0 : VFunc) (s28 : (List (List Int))) : Nat → (Int × (List (List Int)) × (List (List Int))) → Option ((List (List Int)) × (List (List Int)))
  | 0, _ => none
  | k + 1, s98 => (cnd (decide (s98.1 < ((s28).length : Int))) (Option.bind (regalloc_Interference_l7 K a0 s98 K (0, s98.2.1, s98.2.2)) (fun s101 => (regalloc_Interference_l6 K a0 s28 k ((w64 (s98.1 + 1)), s101.1, s101.2)))) (some (s98.2.1, s98.2.2)))

def regalloc_Interference (K : Nat) (a0 : VFunc) : Option (List (List Int)) :=
  (Option.bind (vcode_Valid K a0) (fun r2 => (cnd (!r2) (some ([] : List (List Int))) (Option.bind (mk 24 a0.Regs ([] : List Int)) (fun l5 => (Option.bind (regalloc_Interference_l1 K a0 l5 K (0, l5)) (fun s11 => (Option.bind (regalloc_points K a0) (fun r26 => (Option.bind (regalloc_Interference_l2 K a0 r26 K (0, s11)) (fun s28 => (Option.bind (mk 24 a0.Regs ([] : List Int)) (fun l88 => (Option.bind (regalloc_Interference_l6 K a0 s28 K (0, l88, s28)) (fun s93 => (some s93.1))))))))))))))))

theorem c_regalloc_Interference (K : Nat) (a0 : VFunc) (r : (List (List Int))) (h : regalloc_Interference K a0 = some r) : CallP Tryd.prog glob 53 [(Ty.agg [(tI a0.Params), (tI a0.Regs), (tL 5 Block.ty a0.Blocks)])] (tL 1 lIs r) := by
  refine call_of_code Tryd.func53 rfl Tryd.ntmps53 rfl (fun L w => ?_)
  change OkC _ _ _ [(0, (Ty.agg [(tI a0.Params), (tI a0.Regs), (tL 5 Block.ty a0.Blocks)]))] (L)
  unfold regalloc_Interference at h
  refine okC_seq ?_
  refine okC_region ?_
  refine okL_stepO 1 rfl rfl (doesO_box [(tI a0.Params), (tI a0.Regs), (tL 5 Block.ty a0.Blocks)] rfl (part_agg _) (fun g1 => ?_))
  refine okL_step 2 (Ty.val (.slice none 0 0)) rfl rfl (does_assign rfl) ?_
  refine okL_nil ?_
  refine okX_next ?_
  refine okC_seq ?_
  refine okC_seq ?_
  refine okC_region ?_
  refine okL_step 18 (Ty.agg [(tI a0.Params), (tI a0.Regs), (tL 5 Block.ty a0.Blocks)]) rfl rfl (does_loadBA [(tI a0.Params), (tI a0.Regs), (tL 5 Block.ty a0.Blocks)] Tryd.isAgg27 Tryd.sizeOf27 rfl 0 rfl rfl rfl) ?_
  obtain ⟨r2, hc3, h⟩ := bs h
  refine okL_step 19 (tB r2) rfl rfl (does_call0 (c_vcode_Valid K a0 r2 hc3) rfl Tryd.call63 rfl) ?_
  refine okL_step 20 (tB (!r2)) rfl rfl (does_not rfl) ?_
  refine okL_nil ?_
  refine okX_next ?_
  refine okC_cond (b := (!r2)) rfl (fun hb4 => ?_) (fun hb4 => ?_)
  · replace h := ct hb4 h
    refine okC_seq ?_
    refine okC_region ?_
    refine okL_step 2 (Ty.val (.slice none 0 0)) rfl rfl (does_assign rfl) ?_
    refine okL_nil ?_
    refine okX_next ?_
    refine okC_ret ?_
    refine okX_then_ret ?_
    obtain rfl := (smh h).symm
    refine okX_sub 2 (tL 1 lIs ([] : List (List Int))) rfl (sub_nil _) ?_
    refine okX_items [Item.blk g1 27 [(tI a0.Params), (tI a0.Regs), (tL 5 Block.ty a0.Blocks)]] (L) (pm 0 rfl (pr _)) ?_
    exact okX_ret1 () Tryd.results53 rfl rfl
  · replace h := cf hb4 h
    refine okC_skip ?_
    refine okX_next ?_
    refine okC_seq ?_
    refine okC_region ?_
    refine okL_step 21 (pAt g1 1) rfl rfl (does_fieldAddrP 1 Tryd.underlying27 rfl Tryd.sizeOf3 rfl rfl) ?_
    refine okL_step 22 (tI a0.Regs) rfl rfl (does_loadB1 Tryd.isAgg3 rfl 0 rfl rfl) ?_
    obtain ⟨l5, hm6, h⟩ := bs h
    refine okL_stepO 23 rfl rfl (doesO_makeM lU 137 1 el136 l5 hm6 rfl rfl (fun v7 us8 => ?_))
    refine okL_stepO 3 rfl rfl (doesO_alloc [(Ty.val (.slice none 0 0))] Tryd.zeroValue136 (part_one (one_val rfl)) (fun g9 => ?_))
    refine okL_stepU rfl (doesO_storeB (ps := [(Ty.own v7)]) 0 [(Ty.own v7)] (Item.blk g9 136 [(Ty.own v7)] :: rowL v7 92 1 lO us8 :: rowsL us8 137 1 lU l5 :: Item.blk g1 27 [(tI a0.Params), (tI a0.Regs), (tL 5 Block.ty a0.Blocks)] :: L) rfl rfl (part_one (one_own _)) Tryd.sizeOf136 rfl rfl rfl rfl ?_)
    refine okL_nil ?_
    refine okX_next ?_
    refine okC_seq ?_
    refine okC_seq ?_
    refine okC_region ?_
    refine okL_step 24 (Ty.own v7) rfl rfl (does_loadB1 Tryd.isAgg136 rfl 0 rfl rfl) ?_
    refine okL_rowsLen 2 rfl (fun hl10 => ?_)
    refine okL_step 25 (tI ((l5).length : Int)) rfl rfl (does_weak (does_lenR (f := lO) (l := us8) rfl Tryd.underlying136 1 rfl rfl) (sub_eq (congrArg (fun n : Nat => tI (n : Int)) hl10))) ?_
    refine okL_step 26 (tI 0) rfl rfl (does_move rfl) ?_
    refine okL_nil ?_
    refine okX_next ?_
    obtain ⟨z13, h15, hz14⟩ := bs h
    refine okC_meetE (X := ((List (List Int)) × (List Value))) (fun x => z13 = x.1) (fun x : ((List (List Int)) × (List Value)) => [(1, (pAt g1 0)), (3, (pAt g9 0))]) (fun x : ((List (List Int)) × (List Value)) => Item.blk g9 136 [(Ty.own v7)] :: rowL v7 92 1 lO x.2 :: rowsL x.2 137 1 lU x.1 :: Item.blk g1 27 [(tI a0.Params), (tI a0.Regs), (tL 5 Block.ty a0.Blocks)] :: L) ?_ ?_
    · refine okC_block ?_
      refine okC_loop (X := ((Int × (List (List Int))) × (List Value))) (fun k x => regalloc_Interference_l1 K a0 l5 k x.1 = some z13) (fun x : ((Int × (List (List Int))) × (List Value)) => [(1, (pAt g1 0)), (3, (pAt g9 0)), (25, (tI ((l5).length : Int))), (26, (tI x.1.1))]) (fun x : ((Int × (List (List Int))) × (List Value)) => Item.blk g9 136 [(Ty.own v7)] :: rowL v7 92 1 lO x.2 :: rowsL x.2 137 1 lU x.1.2 :: Item.blk g1 27 [(tI a0.Params), (tI a0.Regs), (tL 5 Block.ty a0.Blocks)] :: L) K ((0, l5), us8) h15 (cc rfl (cc rfl (cc rfl (cc rfl cn)))) rfl (fun k x hI => ?_)
      obtain ⟨s16, w17⟩ := x
      change OkC _ _ _ [(1, (pAt g1 0)), (3, (pAt g9 0)), (25, (tI ((l5).length : Int))), (26, (tI s16.1))] (Item.blk g9 136 [(Ty.own v7)] :: rowL v7 92 1 lO w17 :: rowsL w17 137 1 lU s16.2 :: Item.blk g1 27 [(tI a0.Params), (tI a0.Regs), (tL 5 Block.ty a0.Blocks)] :: L)
      cases k with
      | zero => exact (nz hI).elim
      | succ k =>
        have h : regalloc_Interference_l1 K a0 l5 (k + 1) s16 = some z13 := hI
        rw [regalloc_Interference_l1.eq_2] at h
        refine okC_seq ?_
        refine okC_region ?_
        refine okL_step 27 (tB (decide (s16.1 < ((l5).length : Int)))) rfl rfl (does_lss rfl rfl) ?_
        refine okL_nil ?_
        refine okX_next ?_
        refine okC_seq ?_
        refine okC_cond (b := (decide (s16.1 < ((l5).length : Int)))) rfl (fun hb18 => ?_) (fun hb18 => ?_)
        · replace h := ct hb18 h
          refine okC_skip ?_
          refine okX_next ?_
          refine okC_seq ?_
          refine okC_block ?_
          refine okC_seq ?_
          refine okC_region ?_
          refine okL_step 28 (tI s16.1) rfl rfl (does_move rfl) ?_
          refine okL_step 4 (tI s16.1) rfl rfl (does_assign rfl) ?_
          refine okL_nil ?_
          refine okX_next ?_
          refine okC_cov [(1, (pAt g1 0)), (3, (pAt g9 0)), (4, (tI s16.1)), (25, (tI ((l5).length : Int))), (26, (tI s16.1))] (cc rfl (cc rfl (cc rfl (cc rfl (cc rfl cn))))) ?_
          obtain ⟨l19, hm20, h⟩ := bs h
          refine okC_draw 7 [some (29, (Ty.own v7)), some (30, (tI s16.1)), some (31, (pAt g1 1)), some (32, (tI a0.Regs)), some (33, (tI (w64 (a0.Regs + 63)))), some (34, (tI (w64 (Int.tdiv (w64 (a0.Regs + 63)) 64)))), none] ⟨Item.blk g9 136 [(Ty.own v7)] :: rowL v7 92 1 lO w17 :: rowsL w17 137 1 lU s16.2 :: Item.blk g1 27 [(tI a0.Params), (tI a0.Regs), (tL 5 Block.ty a0.Blocks)] :: ([] : List Item), Item.blk g9 136 [(Ty.own v7)] :: rowL v7 92 1 lO w17 :: rowsL w17 137 1 lU s16.2 :: Item.blk g1 27 [(tI a0.Params), (tI a0.Regs), (tL 5 Block.ty a0.Blocks)] :: ([] : List Item), []⟩ [6] mixed rfl rfl (by kernel_rfl) rfl (by kernel_rfl) rfl rfl rfl (fun _ h => List.Sublist.subset (.cons_cons _ (.cons_cons _ (.cons_cons _ (.cons_cons _ (List.nil_sublist _))))) h) (fun _ h => List.Sublist.subset (.cons_cons _ (.cons_cons _ (.cons_cons _ (.cons_cons _ (List.nil_sublist _))))) h) rfl (by kernel_rfl) (.inr ⟨by kernel_rfl, by kernel_rfl⟩) (by kernel_rfl) (by kernel_rfl) (dc (draw_plain rfl (does_loadB1 Tryd.isAgg136 rfl 0 rfl rfl)) (dc (draw_plain rfl (does_move rfl)) (dc (draw_plain rfl (does_fieldAddrP 1 Tryd.underlying27 rfl Tryd.sizeOf3 rfl rfl)) (dc (draw_plain rfl (does_loadB1 Tryd.isAgg3 rfl 3 rfl rfl)) (dc (draw_plain rfl (does_add rfl rfl)) (dc (draw_plain rfl (does_quo (by decide) rfl rfl)) (ds (dn)))))))) ?_
          refine ch_step [6] rfl (ap_cons (ch_at _ rfl rfl (doesO_make (f := lU) el92 0 l19 hm20 rfl rfl (part_one (one_val rfl)) (fun v21 => ?_))) (ap_nil))
          refine ⟨⟨(fun _ h => List.Sublist.subset (.cons _ (.cons_cons _ (.cons_cons _ (.cons_cons _ (.cons_cons _ (List.nil_sublist _)))))) h), .inr (fun _ h => List.Sublist.subset (.cons _ (.cons_cons _ (.cons_cons _ (.cons_cons _ (.cons_cons _ (List.nil_sublist _)))))) h)⟩, ?_⟩
          refine ch_end ?_
          change OkL _ _ _ _ [(29, (Ty.own v7)), (30, (tI s16.1)), (31, (pAt g1 1)), (32, (tI a0.Regs)), (33, (tI (w64 (a0.Regs + 63)))), (34, (tI (w64 (Int.tdiv (w64 (a0.Regs + 63)) 64)))), (35, (Ty.own v21)), (1, (pAt g1 0)), (3, (pAt g9 0)), (4, (tI s16.1)), (25, (tI ((l5).length : Int))), (26, (tI s16.1))] (rowL v21 137 1 lU l19 :: Item.blk g9 136 [(Ty.own v7)] :: rowL v7 92 1 lO w17 :: rowsL w17 137 1 lU s16.2 :: Item.blk g1 27 [(tI a0.Params), (tI a0.Regs), (tL 5 Block.ty a0.Blocks)] :: L)
          obtain ⟨y22, hi23, h⟩ := bs h
          refine okL_open (m := s16.1) hi23 (pm 3 rfl (pr _)) (fun u24 hu25 => ?_)
          refine okL_step 36 (Ty.rptr v7 (s16.1.toNat * 1)) rfl rfl (does_indexR (f := lO) (l := w17) (m := s16.1) el136 4 u24 hu25 rfl rfl rfl) ?_
          refine okL_stepU rfl (doesO_storeR (f := lO) (l := w17) (sz := 1) (ps := [(Ty.own v21)]) (y0 := u24) (y1 := v21) (m := s16.1) 4 0 (w17.set s16.1.toNat v21) (rowL u24 137 1 lU y22 :: rowsL (w17.eraseIdx s16.1.toNat) 137 1 lU (s16.2.eraseIdx s16.1.toNat) :: rowL v21 137 1 lU l19 :: Item.blk g9 136 [(Ty.own v7)] :: rowL v7 92 1 lO (w17.set s16.1.toNat v21) :: Item.blk g1 27 [(tI a0.Params), (tI a0.Regs), (tL 5 Block.ty a0.Blocks)] :: L) rfl rfl (part_one (one_own _)) Tryd.sizeOf92 rfl hu25 rfl rfl rfl rfl rfl ?_)
          refine okL_close2 (m := s16.1) hi23 hu25 (pm 2 rfl (pm 1 rfl (pr _))) ?_
          refine okL_nil ?_
          refine okX_block_normal ?_
          refine okX_next ?_
          refine okC_region ?_
          refine okL_step 37 (tI (w64 (s16.1 + 1))) rfl rfl (does_add rfl rfl) ?_
          refine okL_step 26 (tI (w64 (s16.1 + 1))) rfl rfl (does_move rfl) ?_
          refine okL_nil ?_
          refine okX_items [rowL u24 137 1 lU y22] (Item.blk g9 136 [(Ty.own v7)] :: rowL v7 92 1 lO (w17.set s16.1.toNat v21) :: rowsL (w17.set s16.1.toNat v21) 137 1 lU (s16.2.set s16.1.toNat l19) :: Item.blk g1 27 [(tI a0.Params), (tI a0.Regs), (tL 5 Block.ty a0.Blocks)] :: L) (pm 1 rfl (pm 1 rfl (pm 1 rfl (pm 0 rfl (pm 0 rfl (pr _)))))) ?_
          exact okX_again k (Nat.lt_succ_self k) (((w64 (s16.1 + 1)), (s16.2.set s16.1.toNat l19)), (w17.set s16.1.toNat v21)) h (cc rfl (cc rfl (cc rfl (cc rfl cn)))) rfl
        · replace h := cf hb18 h
          refine okC_exit ?_
          refine okX_then_exit ?_
          refine okX_again_exit ?_
          refine okX_block_hit ?_
          exact okX_meet (I := _) (s16.2, w17) (smh h) (cc rfl (cc rfl cn)) rfl
    · intro x hx
      obtain ⟨s11, w12⟩ := x
      change OkX _ _ _ [(1, (pAt g1 0)), (3, (pAt g9 0))] (Item.blk g9 136 [(Ty.own v7)] :: rowL v7 92 1 lO w12 :: rowsL w12 137 1 lU s11 :: Item.blk g1 27 [(tI a0.Params), (tI a0.Regs), (tL 5 Block.ty a0.Blocks)] :: L)
      obtain rfl : s11 = z13 := hx.symm
      replace h := hz14
      refine okX_next ?_
      refine okC_seq ?_
      refine okC_region ?_
      refine okL_step 38 (Ty.val (.func (.func 97) #[] #[(.pointer (some ⟨g9, 0, none⟩))])) rfl rfl (does_makeFunc (vs := [(.pointer (some ⟨g9, 0, none⟩))]) rfl) ?_
      refine okL_step 5 (Ty.val (.func (.func 97) #[] #[(.pointer (some ⟨g9, 0, none⟩))])) rfl rfl (does_assign rfl) ?_
      refine okL_nil ?_
      refine okX_next ?_
      refine okC_seq ?_
      refine okC_region ?_
      refine okL_step 39 (Ty.agg [(tI a0.Params), (tI a0.Regs), (tL 5 Block.ty a0.Blocks)]) rfl rfl (does_loadBA [(tI a0.Params), (tI a0.Regs), (tL 5 Block.ty a0.Blocks)] Tryd.isAgg27 Tryd.sizeOf27 rfl 3 rfl rfl rfl) ?_
      obtain ⟨r26, hc27, h⟩ := bs h
      refine okL_step 40 (tL 1 ls_SSI r26) rfl rfl (does_call0 (c_regalloc_points K a0 r26 hc27) rfl Tryd.call91 rfl) ?_
      refine okL_step 6 (tL 1 ls_SSI r26) rfl rfl (does_assign rfl) ?_
      refine okL_nil ?_
      refine okX_next ?_
      refine okC_seq ?_
      refine okC_seq ?_
      refine okC_region ?_
      refine okL_step 41 (pAt g1 2) rfl rfl (does_fieldAddrP 2 Tryd.underlying27 rfl Tryd.sizeOf25 rfl rfl) ?_
      refine okL_step 42 (tL 5 Block.ty a0.Blocks) rfl rfl (does_loadB1 Tryd.isAgg25 rfl 3 rfl rfl) ?_
      refine okL_step 43 (tI ((a0.Blocks).length : Int)) rfl rfl (does_len (sz := 5) (f := Block.ty) (l := a0.Blocks) rfl Tryd.underlying25 rfl) ?_
      refine okL_step 44 (tI 0) rfl rfl (does_move rfl) ?_
      refine okL_nil ?_
      refine okX_next ?_
      obtain ⟨z30, h32, hz31⟩ := bs h
      refine okC_meetE (X := ((List (List Int)) × (List Value))) (fun x => z30 = x.1) (fun x : ((List (List Int)) × (List Value)) => [(1, (pAt g1 0)), (3, (pAt g9 0))]) (fun x : ((List (List Int)) × (List Value)) => Item.blk g9 136 [(Ty.own v7)] :: rowL v7 92 1 lO x.2 :: rowsL x.2 137 1 lU x.1 :: Item.blk g1 27 [(tI a0.Params), (tI a0.Regs), (tL 5 Block.ty a0.Blocks)] :: L) ?_ ?_
      · refine okC_block ?_
        refine okC_loop (X := ((Int × (List (List Int))) × (List Value))) (fun k x => regalloc_Interference_l2 K a0 r26 k x.1 = some z30) (fun x : ((Int × (List (List Int))) × (List Value)) => [(1, (pAt g1 0)), (3, (pAt g9 0)), (5, (Ty.val (.func (.func 97) #[] #[(.pointer (some ⟨g9, 0, none⟩))]))), (6, (tL 1 ls_SSI r26)), (42, (tL 5 Block.ty a0.Blocks)), (43, (tI ((a0.Blocks).length : Int))), (44, (tI x.1.1))]) (fun x : ((Int × (List (List Int))) × (List Value)) => Item.blk g9 136 [(Ty.own v7)] :: rowL v7 92 1 lO x.2 :: rowsL x.2 137 1 lU x.1.2 :: Item.blk g1 27 [(tI a0.Params), (tI a0.Regs), (tL 5 Block.ty a0.Blocks)] :: L) K ((0, s11), w12) h32 (cc rfl (cc rfl (cc rfl (cc rfl (cc rfl (cc rfl (cc rfl cn))))))) rfl (fun k x hI => ?_)
        obtain ⟨s33, w34⟩ := x
        change OkC _ _ _ [(1, (pAt g1 0)), (3, (pAt g9 0)), (5, (Ty.val (.func (.func 97) #[] #[(.pointer (some ⟨g9, 0, none⟩))]))), (6, (tL 1 ls_SSI r26)), (42, (tL 5 Block.ty a0.Blocks)), (43, (tI ((a0.Blocks).length : Int))), (44, (tI s33.1))] (Item.blk g9 136 [(Ty.own v7)] :: rowL v7 92 1 lO w34 :: rowsL w34 137 1 lU s33.2 :: Item.blk g1 27 [(tI a0.Params), (tI a0.Regs), (tL 5 Block.ty a0.Blocks)] :: L)
        cases k with
        | zero => exact (nz hI).elim
        | succ k =>
          have h : regalloc_Interference_l2 K a0 r26 (k + 1) s33 = some z30 := hI
          rw [regalloc_Interference_l2.eq_2] at h
          refine okC_seq ?_
          refine okC_region ?_
          refine okL_step 45 (tB (decide (s33.1 < ((a0.Blocks).length : Int)))) rfl rfl (does_lss rfl rfl) ?_
          refine okL_nil ?_
          refine okX_next ?_
          refine okC_seq ?_
          refine okC_cond (b := (decide (s33.1 < ((a0.Blocks).length : Int)))) rfl (fun hb35 => ?_) (fun hb35 => ?_)
          · replace h := ct hb35 h
            refine okC_skip ?_
            refine okX_next ?_
            refine okC_seq ?_
            refine okC_block ?_
            refine okC_seq ?_
            refine okC_region ?_
            refine okL_step 46 (tI s33.1) rfl rfl (does_move rfl) ?_
            obtain ⟨y36, hi37, h⟩ := bs h
            refine okL_step 47 (Ty.ptr [(tL 6 VInstr.ty y36.Instrs), (tI y36.End), (tI y36.Reg), (tI y36.Target), (tI y36.Else)]) rfl rfl (does_index (sz := 5) (f := Block.ty) (l := a0.Blocks) (n := s33.1) y36 Tryd.underlying25 Tryd.sizeOf43 hi37 rfl rfl) ?_
            refine okL_step 48 (Ty.agg [(tL 6 VInstr.ty y36.Instrs), (tI y36.End), (tI y36.Reg), (tI y36.Target), (tI y36.Else)]) rfl rfl (does_loadA [(tL 6 VInstr.ty y36.Instrs), (tI y36.End), (tI y36.Reg), (tI y36.Target), (tI y36.Else)] Tryd.isAgg43 Tryd.sizeOf43 rfl rfl rfl) ?_
            refine okL_stepO 8 rfl rfl (doesO_alloc [(Ty.val (.slice none 0 0)), (tI 0), (tI 0), (tI 0), (tI 0)] Tryd.zeroValue43 (part_of (sub_agg [(.slice none 0 0), (.int .i64 0), (.int .i64 0), (.int .i64 0), (.int .i64 0)] rfl) (part_agg _)) (fun g38 => ?_))
            refine okL_step 7 (tI s33.1) rfl rfl (does_assign rfl) ?_
            refine okL_stepU rfl (doesO_storeB (ps := [(tL 6 VInstr.ty y36.Instrs), (tI y36.End), (tI y36.Reg), (tI y36.Target), (tI y36.Else)]) 0 [(tL 6 VInstr.ty y36.Instrs), (tI y36.End), (tI y36.Reg), (tI y36.Target), (tI y36.Else)] (Item.blk g38 43 [(tL 6 VInstr.ty y36.Instrs), (tI y36.End), (tI y36.Reg), (tI y36.Target), (tI y36.Else)] :: Item.blk g9 136 [(Ty.own v7)] :: rowL v7 92 1 lO w34 :: rowsL w34 137 1 lU s33.2 :: Item.blk g1 27 [(tI a0.Params), (tI a0.Regs), (tL 5 Block.ty a0.Blocks)] :: L) rfl rfl (part_agg _) Tryd.sizeOf43 rfl rfl rfl rfl ?_)
            refine okL_nil ?_
            refine okX_next ?_
            refine okC_seq ?_
            refine okC_region ?_
            refine okL_step 49 (pAt g38 0) rfl rfl (does_fieldAddrP 0 Tryd.underlying43 rfl Tryd.sizeOf41 rfl rfl) ?_
            refine okL_step 50 (tL 6 VInstr.ty y36.Instrs) rfl rfl (does_loadB1 Tryd.isAgg41 rfl 0 rfl rfl) ?_
            refine okL_step 51 (tI ((y36.Instrs).length : Int)) rfl rfl (does_len (sz := 6) (f := VInstr.ty) (l := y36.Instrs) rfl Tryd.underlying41 rfl) ?_
            refine okL_step 52 (tI 0) rfl rfl (does_move rfl) ?_
            refine okL_nil ?_
            refine okX_next ?_
            obtain ⟨z41, h43, hz42⟩ := bs h
            refine okC_meetE (X := (List (List Int))) (fun x => z41 = x) (fun x : (List (List Int)) => [(1, (pAt g1 0)), (3, (pAt g9 0)), (5, (Ty.val (.func (.func 97) #[] #[(.pointer (some ⟨g9, 0, none⟩))]))), (6, (tL 1 ls_SSI r26)), (42, (tL 5 Block.ty a0.Blocks)), (43, (tI ((a0.Blocks).length : Int))), (44, (tI s33.1))]) (fun x : (List (List Int)) => Item.blk g38 43 [(tL 6 VInstr.ty y36.Instrs), (tI y36.End), (tI y36.Reg), (tI y36.Target), (tI y36.Else)] :: Item.blk g9 136 [(Ty.own v7)] :: rowL v7 92 1 lO w34 :: rowsL w34 137 1 lU x :: Item.blk g1 27 [(tI a0.Params), (tI a0.Regs), (tL 5 Block.ty a0.Blocks)] :: L) ?_ ?_
            · refine okC_block ?_
              refine okC_loop (X := (Int × (List (List Int)))) (fun k x => regalloc_Interference_l3 K r26 s33 y36 k x = some z41) (fun x : (Int × (List (List Int))) => [(1, (pAt g1 0)), (3, (pAt g9 0)), (5, (Ty.val (.func (.func 97) #[] #[(.pointer (some ⟨g9, 0, none⟩))]))), (6, (tL 1 ls_SSI r26)), (7, (tI s33.1)), (42, (tL 5 Block.ty a0.Blocks)), (43, (tI ((a0.Blocks).length : Int))), (44, (tI s33.1)), (50, (tL 6 VInstr.ty y36.Instrs)), (51, (tI ((y36.Instrs).length : Int))), (52, (tI x.1))]) (fun x : (Int × (List (List Int))) => Item.blk g38 43 [(tL 6 VInstr.ty y36.Instrs), (tI y36.End), (tI y36.Reg), (tI y36.Target), (tI y36.Else)] :: Item.blk g9 136 [(Ty.own v7)] :: rowL v7 92 1 lO w34 :: rowsL w34 137 1 lU x.2 :: Item.blk g1 27 [(tI a0.Params), (tI a0.Regs), (tL 5 Block.ty a0.Blocks)] :: L) K (0, s33.2) h43 (cc rfl (cc rfl (cc rfl (cc rfl (cc rfl (cc rfl (cc rfl (cc rfl (cc rfl (cc rfl (cc rfl cn))))))))))) rfl (fun k s44 hI => ?_)
              change OkC _ _ _ [(1, (pAt g1 0)), (3, (pAt g9 0)), (5, (Ty.val (.func (.func 97) #[] #[(.pointer (some ⟨g9, 0, none⟩))]))), (6, (tL 1 ls_SSI r26)), (7, (tI s33.1)), (42, (tL 5 Block.ty a0.Blocks)), (43, (tI ((a0.Blocks).length : Int))), (44, (tI s33.1)), (50, (tL 6 VInstr.ty y36.Instrs)), (51, (tI ((y36.Instrs).length : Int))), (52, (tI s44.1))] (Item.blk g38 43 [(tL 6 VInstr.ty y36.Instrs), (tI y36.End), (tI y36.Reg), (tI y36.Target), (tI y36.Else)] :: Item.blk g9 136 [(Ty.own v7)] :: rowL v7 92 1 lO w34 :: rowsL w34 137 1 lU s44.2 :: Item.blk g1 27 [(tI a0.Params), (tI a0.Regs), (tL 5 Block.ty a0.Blocks)] :: L)
              cases k with
              | zero => exact (nz hI).elim
              | succ k =>
                have h : regalloc_Interference_l3 K r26 s33 y36 (k + 1) s44 = some z41 := hI
                rw [regalloc_Interference_l3.eq_2] at h
                refine okC_seq ?_
                refine okC_region ?_
                refine okL_step 53 (tB (decide (s44.1 < ((y36.Instrs).length : Int)))) rfl rfl (does_lss rfl rfl) ?_
                refine okL_nil ?_
                refine okX_next ?_
                refine okC_seq ?_
                refine okC_cond (b := (decide (s44.1 < ((y36.Instrs).length : Int)))) rfl (fun hb46 => ?_) (fun hb46 => ?_)
                · replace h := ct hb46 h
                  refine okC_skip ?_
                  refine okX_next ?_
                  refine okC_seq ?_
                  refine okC_block ?_
                  refine okC_seq ?_
                  refine okC_region ?_
                  refine okL_step 54 (tI s44.1) rfl rfl (does_move rfl) ?_
                  obtain ⟨y47, hi48, h⟩ := bs h
                  refine okL_step 55 (Ty.ptr [(tI y47.Instr.Op), (tI y47.Instr.A), (tI y47.Instr.B), (tI y47.Instr.C), (tI y47.Instr.N), (tL 1 lI y47.Args)]) rfl rfl (does_index (sz := 6) (f := VInstr.ty) (l := y36.Instrs) (n := s44.1) y47 Tryd.underlying41 Tryd.sizeOf48 hi48 rfl rfl) ?_
                  refine okL_step 56 (Ty.agg [(tI y47.Instr.Op), (tI y47.Instr.A), (tI y47.Instr.B), (tI y47.Instr.C), (tI y47.Instr.N), (tL 1 lI y47.Args)]) rfl rfl (does_loadA [(tI y47.Instr.Op), (tI y47.Instr.A), (tI y47.Instr.B), (tI y47.Instr.C), (tI y47.Instr.N), (tL 1 lI y47.Args)] Tryd.isAgg48 Tryd.sizeOf48 rfl rfl rfl) ?_
                  refine okL_stepO 10 rfl rfl (doesO_alloc [(tI 0), (tI 0), (tI 0), (tI 0), (tI 0), (Ty.val (.slice none 0 0))] Tryd.zeroValue48 (part_of (sub_agg [(.int .i64 0), (.int .i64 0), (.int .i64 0), (.int .i64 0), (.int .i64 0), (.slice none 0 0)] rfl) (part_agg _)) (fun g49 => ?_))
                  refine okL_step 9 (tI s44.1) rfl rfl (does_assign rfl) ?_
                  refine okL_stepU rfl (doesO_storeB (ps := [(tI y47.Instr.Op), (tI y47.Instr.A), (tI y47.Instr.B), (tI y47.Instr.C), (tI y47.Instr.N), (tL 1 lI y47.Args)]) 0 [(tI y47.Instr.Op), (tI y47.Instr.A), (tI y47.Instr.B), (tI y47.Instr.C), (tI y47.Instr.N), (tL 1 lI y47.Args)] (Item.blk g49 48 [(tI y47.Instr.Op), (tI y47.Instr.A), (tI y47.Instr.B), (tI y47.Instr.C), (tI y47.Instr.N), (tL 1 lI y47.Args)] :: Item.blk g38 43 [(tL 6 VInstr.ty y36.Instrs), (tI y36.End), (tI y36.Reg), (tI y36.Target), (tI y36.Else)] :: Item.blk g9 136 [(Ty.own v7)] :: rowL v7 92 1 lO w34 :: rowsL w34 137 1 lU s44.2 :: Item.blk g1 27 [(tI a0.Params), (tI a0.Regs), (tL 5 Block.ty a0.Blocks)] :: L) rfl rfl (part_agg _) Tryd.sizeOf48 rfl rfl rfl rfl ?_)
                  refine okL_nil ?_
                  refine okX_next ?_
                  refine okC_seq ?_
                  refine okC_region ?_
                  refine okL_step 57 (Ty.agg [(tI y47.Instr.Op), (tI y47.Instr.A), (tI y47.Instr.B), (tI y47.Instr.C), (tI y47.Instr.N), (tL 1 lI y47.Args)]) rfl rfl (does_loadBA [(tI y47.Instr.Op), (tI y47.Instr.A), (tI y47.Instr.B), (tI y47.Instr.C), (tI y47.Instr.N), (tL 1 lI y47.Args)] Tryd.isAgg48 Tryd.sizeOf48 rfl 0 rfl rfl rfl) ?_
                  obtain ⟨r50, hc51, h⟩ := bs h
                  refine okL_step 58 (tL 1 lI r50) rfl rfl (does_call0 (c_vcode_Writes y47 r50 hc51) rfl Tryd.call96 rfl) ?_
                  refine okL_step 59 (tI ((r50).length : Int)) rfl rfl (does_len (sz := 1) (f := lI) (l := r50) rfl Tryd.underlying31 rfl) ?_
                  refine okL_step 60 (tI 0) rfl rfl (does_move rfl) ?_
                  refine okL_nil ?_
                  refine okX_next ?_
                  obtain ⟨z54, h56, hz55⟩ := bs h
                  refine okC_meetE (X := (List (List Int))) (fun x => z54 = x) (fun x : (List (List Int)) => [(1, (pAt g1 0)), (3, (pAt g9 0)), (5, (Ty.val (.func (.func 97) #[] #[(.pointer (some ⟨g9, 0, none⟩))]))), (6, (tL 1 ls_SSI r26)), (7, (tI s33.1)), (42, (tL 5 Block.ty a0.Blocks)), (43, (tI ((a0.Blocks).length : Int))), (44, (tI s33.1)), (50, (tL 6 VInstr.ty y36.Instrs)), (51, (tI ((y36.Instrs).length : Int))), (52, (tI s44.1))]) (fun x : (List (List Int)) => Item.blk g49 48 [(tI y47.Instr.Op), (tI y47.Instr.A), (tI y47.Instr.B), (tI y47.Instr.C), (tI y47.Instr.N), (tL 1 lI y47.Args)] :: Item.blk g38 43 [(tL 6 VInstr.ty y36.Instrs), (tI y36.End), (tI y36.Reg), (tI y36.Target), (tI y36.Else)] :: Item.blk g9 136 [(Ty.own v7)] :: rowL v7 92 1 lO w34 :: rowsL w34 137 1 lU x :: Item.blk g1 27 [(tI a0.Params), (tI a0.Regs), (tL 5 Block.ty a0.Blocks)] :: L) ?_ ?_
                  · refine okC_block ?_
                    refine okC_loop (X := (Int × (List (List Int)))) (fun k x => regalloc_Interference_l4 K r26 s33 s44 y47 r50 k x = some z54) (fun x : (Int × (List (List Int))) => [(1, (pAt g1 0)), (3, (pAt g9 0)), (5, (Ty.val (.func (.func 97) #[] #[(.pointer (some ⟨g9, 0, none⟩))]))), (6, (tL 1 ls_SSI r26)), (7, (tI s33.1)), (9, (tI s44.1)), (10, (pAt g49 0)), (42, (tL 5 Block.ty a0.Blocks)), (43, (tI ((a0.Blocks).length : Int))), (44, (tI s33.1)), (50, (tL 6 VInstr.ty y36.Instrs)), (51, (tI ((y36.Instrs).length : Int))), (52, (tI s44.1)), (58, (tL 1 lI r50)), (59, (tI ((r50).length : Int))), (60, (tI x.1))]) (fun x : (Int × (List (List Int))) => Item.blk g49 48 [(tI y47.Instr.Op), (tI y47.Instr.A), (tI y47.Instr.B), (tI y47.Instr.C), (tI y47.Instr.N), (tL 1 lI y47.Args)] :: Item.blk g38 43 [(tL 6 VInstr.ty y36.Instrs), (tI y36.End), (tI y36.Reg), (tI y36.Target), (tI y36.Else)] :: Item.blk g9 136 [(Ty.own v7)] :: rowL v7 92 1 lO w34 :: rowsL w34 137 1 lU x.2 :: Item.blk g1 27 [(tI a0.Params), (tI a0.Regs), (tL 5 Block.ty a0.Blocks)] :: L) K (0, s44.2) h56 (cc rfl (cc rfl (cc rfl (cc rfl (cc rfl (cc rfl (cc rfl (cc rfl (cc rfl (cc rfl (cc rfl (cc rfl (cc rfl (cc rfl (cc rfl (cc rfl cn)))))))))))))))) rfl (fun k s57 hI => ?_)
                    change OkC _ _ _ [(1, (pAt g1 0)), (3, (pAt g9 0)), (5, (Ty.val (.func (.func 97) #[] #[(.pointer (some ⟨g9, 0, none⟩))]))), (6, (tL 1 ls_SSI r26)), (7, (tI s33.1)), (9, (tI s44.1)), (10, (pAt g49 0)), (42, (tL 5 Block.ty a0.Blocks)), (43, (tI ((a0.Blocks).length : Int))), (44, (tI s33.1)), (50, (tL 6 VInstr.ty y36.Instrs)), (51, (tI ((y36.Instrs).length : Int))), (52, (tI s44.1)), (58, (tL 1 lI r50)), (59, (tI ((r50).length : Int))), (60, (tI s57.1))] (Item.blk g49 48 [(tI y47.Instr.Op), (tI y47.Instr.A), (tI y47.Instr.B), (tI y47.Instr.C), (tI y47.Instr.N), (tL 1 lI y47.Args)] :: Item.blk g38 43 [(tL 6 VInstr.ty y36.Instrs), (tI y36.End), (tI y36.Reg), (tI y36.Target), (tI y36.Else)] :: Item.blk g9 136 [(Ty.own v7)] :: rowL v7 92 1 lO w34 :: rowsL w34 137 1 lU s57.2 :: Item.blk g1 27 [(tI a0.Params), (tI a0.Regs), (tL 5 Block.ty a0.Blocks)] :: L)
                    cases k with
                    | zero => exact (nz hI).elim
                    | succ k =>
                      have h : regalloc_Interference_l4 K r26 s33 s44 y47 r50 (k + 1) s57 = some z54 := hI
                      rw [regalloc_Interference_l4.eq_2] at h
                      refine okC_seq ?_
                      refine okC_region ?_
                      refine okL_step 61 (tB (decide (s57.1 < ((r50).length : Int)))) rfl rfl (does_lss rfl rfl) ?_
                      refine okL_nil ?_
                      refine okX_next ?_
                      refine okC_seq ?_
                      refine okC_cond (b := (decide (s57.1 < ((r50).length : Int)))) rfl (fun hb59 => ?_) (fun hb59 => ?_)
                      · replace h := ct hb59 h
                        refine okC_skip ?_
                        refine okX_next ?_
                        refine okC_seq ?_
                        refine okC_block ?_
                        refine okC_seq ?_
                        refine okC_region ?_
                        obtain ⟨y60, hi61, h⟩ := bs h
                        refine okL_step 62 (Ty.ptr [(tI y60)]) rfl rfl (does_index (sz := 1) (f := lI) (l := r50) (n := s57.1) y60 Tryd.underlying31 Tryd.sizeOf3 hi61 rfl rfl) ?_
                        refine okL_step 63 (tI y60) rfl rfl (does_load1 Tryd.isAgg3 rfl) ?_
                        refine okL_step 12 (tI y60) rfl rfl (does_assign rfl) ?_
                        refine okL_nil ?_
                        refine okX_next ?_
                        refine okC_seq ?_
                        refine okC_region ?_
                        refine okL_step 64 (tL 1 ls_SSI r26) rfl rfl (does_move rfl) ?_
                        refine okL_step 65 (tI s33.1) rfl rfl (does_move rfl) ?_
                        obtain ⟨y62, hi63, h⟩ := bs h
                        refine okL_step 66 (Ty.ptr [(tL 1 lIs y62)]) rfl rfl (does_index (sz := 1) (f := ls_SSI) (l := r26) (n := s33.1) y62 Tryd.underlying132 Tryd.sizeOf22 hi63 rfl rfl) ?_
                        refine okL_step 67 (tL 1 lIs y62) rfl rfl (does_load1 Tryd.isAgg22 rfl) ?_
                        refine okL_step 68 (tI s44.1) rfl rfl (does_move rfl) ?_
                        refine okL_step 69 (tI (w64 (s44.1 + 1))) rfl rfl (does_add rfl rfl) ?_
                        obtain ⟨y64, hi65, h⟩ := bs h
                        refine okL_step 70 (Ty.ptr [(tL 1 lI y64)]) rfl rfl (does_index (sz := 1) (f := lIs) (l := y62) (n := (w64 (s44.1 + 1))) y64 Tryd.underlying22 Tryd.sizeOf31 hi65 rfl rfl) ?_
                        refine okL_step 71 (tL 1 lI y64) rfl rfl (does_load1 Tryd.isAgg31 rfl) ?_
                        refine okL_step 72 (tI ((y64).length : Int)) rfl rfl (does_len (sz := 1) (f := lI) (l := y64) rfl Tryd.underlying31 rfl) ?_
                        refine okL_step 73 (tI 0) rfl rfl (does_move rfl) ?_
                        refine okL_nil ?_
                        refine okX_next ?_
                        obtain ⟨z68, h70, hz69⟩ := bs h
                        refine okC_meetE (X := (List (List Int))) (fun x => z68 = x) (fun x : (List (List Int)) => [(1, (pAt g1 0)), (3, (pAt g9 0)), (5, (Ty.val (.func (.func 97) #[] #[(.pointer (some ⟨g9, 0, none⟩))]))), (6, (tL 1 ls_SSI r26)), (7, (tI s33.1)), (9, (tI s44.1)), (10, (pAt g49 0)), (42, (tL 5 Block.ty a0.Blocks)), (43, (tI ((a0.Blocks).length : Int))), (44, (tI s33.1)), (50, (tL 6 VInstr.ty y36.Instrs)), (51, (tI ((y36.Instrs).length : Int))), (52, (tI s44.1)), (58, (tL 1 lI r50)), (59, (tI ((r50).length : Int))), (60, (tI s57.1))]) (fun x : (List (List Int)) => Item.blk g49 48 [(tI y47.Instr.Op), (tI y47.Instr.A), (tI y47.Instr.B), (tI y47.Instr.C), (tI y47.Instr.N), (tL 1 lI y47.Args)] :: Item.blk g38 43 [(tL 6 VInstr.ty y36.Instrs), (tI y36.End), (tI y36.Reg), (tI y36.Target), (tI y36.Else)] :: Item.blk g9 136 [(Ty.own v7)] :: rowL v7 92 1 lO w34 :: rowsL w34 137 1 lU x :: Item.blk g1 27 [(tI a0.Params), (tI a0.Regs), (tL 5 Block.ty a0.Blocks)] :: L) ?_ ?_
                        · refine okC_block ?_
                          refine okC_loop (X := (Int × (List (List Int)))) (fun k x => regalloc_Interference_l5 K y47 y60 y64 k x = some z68) (fun x : (Int × (List (List Int))) => [(1, (pAt g1 0)), (3, (pAt g9 0)), (5, (Ty.val (.func (.func 97) #[] #[(.pointer (some ⟨g9, 0, none⟩))]))), (6, (tL 1 ls_SSI r26)), (7, (tI s33.1)), (9, (tI s44.1)), (10, (pAt g49 0)), (12, (tI y60)), (42, (tL 5 Block.ty a0.Blocks)), (43, (tI ((a0.Blocks).length : Int))), (44, (tI s33.1)), (50, (tL 6 VInstr.ty y36.Instrs)), (51, (tI ((y36.Instrs).length : Int))), (52, (tI s44.1)), (58, (tL 1 lI r50)), (59, (tI ((r50).length : Int))), (60, (tI s57.1)), (71, (tL 1 lI y64)), (72, (tI ((y64).length : Int))), (73, (tI x.1))]) (fun x : (Int × (List (List Int))) => Item.blk g49 48 [(tI y47.Instr.Op), (tI y47.Instr.A), (tI y47.Instr.B), (tI y47.Instr.C), (tI y47.Instr.N), (tL 1 lI y47.Args)] :: Item.blk g38 43 [(tL 6 VInstr.ty y36.Instrs), (tI y36.End), (tI y36.Reg), (tI y36.Target), (tI y36.Else)] :: Item.blk g9 136 [(Ty.own v7)] :: rowL v7 92 1 lO w34 :: rowsL w34 137 1 lU x.2 :: Item.blk g1 27 [(tI a0.Params), (tI a0.Regs), (tL 5 Block.ty a0.Blocks)] :: L) K (0, s57.2) h70 (cc rfl (cc rfl (cc rfl (cc rfl (cc rfl (cc rfl (cc rfl (cc rfl (cc rfl (cc rfl (cc rfl (cc rfl (cc rfl (cc rfl (cc rfl (cc rfl (cc rfl (cc rfl (cc rfl (cc rfl cn)))))))))))))))))))) rfl (fun k s71 hI => ?_)
                          change OkC _ _ _ [(1, (pAt g1 0)), (3, (pAt g9 0)), (5, (Ty.val (.func (.func 97) #[] #[(.pointer (some ⟨g9, 0, none⟩))]))), (6, (tL 1 ls_SSI r26)), (7, (tI s33.1)), (9, (tI s44.1)), (10, (pAt g49 0)), (12, (tI y60)), (42, (tL 5 Block.ty a0.Blocks)), (43, (tI ((a0.Blocks).length : Int))), (44, (tI s33.1)), (50, (tL 6 VInstr.ty y36.Instrs)), (51, (tI ((y36.Instrs).length : Int))), (52, (tI s44.1)), (58, (tL 1 lI r50)), (59, (tI ((r50).length : Int))), (60, (tI s57.1)), (71, (tL 1 lI y64)), (72, (tI ((y64).length : Int))), (73, (tI s71.1))] (Item.blk g49 48 [(tI y47.Instr.Op), (tI y47.Instr.A), (tI y47.Instr.B), (tI y47.Instr.C), (tI y47.Instr.N), (tL 1 lI y47.Args)] :: Item.blk g38 43 [(tL 6 VInstr.ty y36.Instrs), (tI y36.End), (tI y36.Reg), (tI y36.Target), (tI y36.Else)] :: Item.blk g9 136 [(Ty.own v7)] :: rowL v7 92 1 lO w34 :: rowsL w34 137 1 lU s71.2 :: Item.blk g1 27 [(tI a0.Params), (tI a0.Regs), (tL 5 Block.ty a0.Blocks)] :: L)
                          cases k with
                          | zero => exact (nz hI).elim
                          | succ k =>
                            have h : regalloc_Interference_l5 K y47 y60 y64 (k + 1) s71 = some z68 := hI
                            rw [regalloc_Interference_l5.eq_2] at h
                            refine okC_seq ?_
                            refine okC_region ?_
                            refine okL_step 74 (tB (decide (s71.1 < ((y64).length : Int)))) rfl rfl (does_lss rfl rfl) ?_
                            refine okL_nil ?_
                            refine okX_next ?_
                            refine okC_seq ?_
                            refine okC_cond (b := (decide (s71.1 < ((y64).length : Int)))) rfl (fun hb73 => ?_) (fun hb73 => ?_)
                            · replace h := ct hb73 h
                              refine okC_skip ?_
                              refine okX_next ?_
                              obtain ⟨z76, h78, hz77⟩ := bs h
                              refine okC_meet (X := (List (List Int))) (fun x => z76 = x) (fun x : (List (List Int)) => [(1, (pAt g1 0)), (3, (pAt g9 0)), (5, (Ty.val (.func (.func 97) #[] #[(.pointer (some ⟨g9, 0, none⟩))]))), (6, (tL 1 ls_SSI r26)), (7, (tI s33.1)), (9, (tI s44.1)), (10, (pAt g49 0)), (12, (tI y60)), (42, (tL 5 Block.ty a0.Blocks)), (43, (tI ((a0.Blocks).length : Int))), (44, (tI s33.1)), (50, (tL 6 VInstr.ty y36.Instrs)), (51, (tI ((y36.Instrs).length : Int))), (52, (tI s44.1)), (58, (tL 1 lI r50)), (59, (tI ((r50).length : Int))), (60, (tI s57.1)), (71, (tL 1 lI y64)), (72, (tI ((y64).length : Int))), (73, (tI s71.1))]) (fun x : (List (List Int)) => Item.blk g49 48 [(tI y47.Instr.Op), (tI y47.Instr.A), (tI y47.Instr.B), (tI y47.Instr.C), (tI y47.Instr.N), (tL 1 lI y47.Args)] :: Item.blk g38 43 [(tL 6 VInstr.ty y36.Instrs), (tI y36.End), (tI y36.Reg), (tI y36.Target), (tI y36.Else)] :: Item.blk g9 136 [(Ty.own v7)] :: rowL v7 92 1 lO w34 :: rowsL w34 137 1 lU x :: Item.blk g1 27 [(tI a0.Params), (tI a0.Regs), (tL 5 Block.ty a0.Blocks)] :: L) ?_ ?_
                              · refine okC_block ?_
                                refine okC_seq ?_
                                refine okC_region ?_
                                obtain ⟨y79, hi80, h78⟩ := bs h78
                                refine okL_step 75 (Ty.ptr [(tI y79)]) rfl rfl (does_index (sz := 1) (f := lI) (l := y64) (n := s71.1) y79 Tryd.underlying31 Tryd.sizeOf3 hi80 rfl rfl) ?_
                                refine okL_step 76 (tI y79) rfl rfl (does_load1 Tryd.isAgg3 rfl) ?_
                                refine okL_step 14 (tI y79) rfl rfl (does_assign rfl) ?_
                                refine okL_nil ?_
                                refine okX_next ?_
                                refine okC_seq ?_
                                refine okC_region ?_
                                refine okL_step 77 (tI y79) rfl rfl (does_move rfl) ?_
                                refine okL_step 78 (tI y60) rfl rfl (does_move rfl) ?_
                                refine okL_step 79 (tB (y79 != y60)) rfl rfl (does_neq rfl rfl) ?_
                                refine okL_step 80 (tB (y79 != y60)) rfl rfl (does_move rfl) ?_
                                refine okL_meet (X := Bool) 13 (fun x => x = ((y79 != y60) && (!((y47.Instr.Op == 10) && (y79 == y47.Instr.B))))) (fun x : Bool => [(1, (pAt g1 0)), (3, (pAt g9 0)), (5, (Ty.val (.func (.func 97) #[] #[(.pointer (some ⟨g9, 0, none⟩))]))), (6, (tL 1 ls_SSI r26)), (7, (tI s33.1)), (9, (tI s44.1)), (10, (pAt g49 0)), (12, (tI y60)), (14, (tI y79)), (42, (tL 5 Block.ty a0.Blocks)), (43, (tI ((a0.Blocks).length : Int))), (44, (tI s33.1)), (50, (tL 6 VInstr.ty y36.Instrs)), (51, (tI ((y36.Instrs).length : Int))), (52, (tI s44.1)), (58, (tL 1 lI r50)), (59, (tI ((r50).length : Int))), (60, (tI s57.1)), (71, (tL 1 lI y64)), (72, (tI ((y64).length : Int))), (73, (tI s71.1)), (93, (tB x))]) (fun x : Bool => Item.blk g49 48 [(tI y47.Instr.Op), (tI y47.Instr.A), (tI y47.Instr.B), (tI y47.Instr.C), (tI y47.Instr.N), (tL 1 lI y47.Args)] :: Item.blk g38 43 [(tL 6 VInstr.ty y36.Instrs), (tI y36.End), (tI y36.Reg), (tI y36.Target), (tI y36.Else)] :: Item.blk g9 136 [(Ty.own v7)] :: rowL v7 92 1 lO w34 :: rowsL w34 137 1 lU s71.2 :: Item.blk g1 27 [(tI a0.Params), (tI a0.Regs), (tL 5 Block.ty a0.Blocks)] :: L) _ rfl ?_ ?_
                                · refine okL_split (y79 != y60) (fun hb81 => ?_) (fun hb81 => ?_)
                                  · refine okL_guard 81 (pAt g49 0) 80 (y79 != y60) rfl rfl hb81 rfl rfl (does_fieldAddrP 0 Tryd.underlying48 rfl Tryd.sizeOf46 rfl rfl) ?_
                                    refine okL_guard 82 (pAt g49 0) 80 (y79 != y60) rfl rfl hb81 rfl rfl (does_fieldAddrP 0 Tryd.underlying46 rfl Tryd.sizeOf3 rfl rfl) ?_
                                    refine okL_guard 83 (tI y47.Instr.Op) 80 (y79 != y60) rfl rfl hb81 rfl rfl (does_loadB1 Tryd.isAgg3 rfl 0 rfl rfl) ?_
                                    refine okL_guard 84 (tB (y47.Instr.Op == 10)) 80 (y79 != y60) rfl rfl hb81 rfl rfl (does_eql rfl rfl) ?_
                                    refine okL_guard 85 (tB (y47.Instr.Op == 10)) 80 (y79 != y60) rfl rfl hb81 rfl rfl (does_move rfl) ?_
                                    refine okL_meet (X := Bool) 6 (fun x => x = ((y47.Instr.Op == 10) && (y79 == y47.Instr.B))) (fun x : Bool => [(1, (pAt g1 0)), (3, (pAt g9 0)), (5, (Ty.val (.func (.func 97) #[] #[(.pointer (some ⟨g9, 0, none⟩))]))), (6, (tL 1 ls_SSI r26)), (7, (tI s33.1)), (9, (tI s44.1)), (10, (pAt g49 0)), (12, (tI y60)), (14, (tI y79)), (42, (tL 5 Block.ty a0.Blocks)), (43, (tI ((a0.Blocks).length : Int))), (44, (tI s33.1)), (50, (tL 6 VInstr.ty y36.Instrs)), (51, (tI ((y36.Instrs).length : Int))), (52, (tI s44.1)), (58, (tL 1 lI r50)), (59, (tI ((r50).length : Int))), (60, (tI s57.1)), (71, (tL 1 lI y64)), (72, (tI ((y64).length : Int))), (73, (tI s71.1)), (80, (tB (y79 != y60))), (81, (pAt g49 0)), (82, (pAt g49 0)), (83, (tI y47.Instr.Op)), (84, (tB (y47.Instr.Op == 10))), (85, (tB (y47.Instr.Op == 10))), (91, (tB x))]) (fun x : Bool => Item.blk g49 48 [(tI y47.Instr.Op), (tI y47.Instr.A), (tI y47.Instr.B), (tI y47.Instr.C), (tI y47.Instr.N), (tL 1 lI y47.Args)] :: Item.blk g38 43 [(tL 6 VInstr.ty y36.Instrs), (tI y36.End), (tI y36.Reg), (tI y36.Target), (tI y36.Else)] :: Item.blk g9 136 [(Ty.own v7)] :: rowL v7 92 1 lO w34 :: rowsL w34 137 1 lU s71.2 :: Item.blk g1 27 [(tI a0.Params), (tI a0.Regs), (tL 5 Block.ty a0.Blocks)] :: L) _ rfl ?_ ?_
                                    · refine okL_split (y47.Instr.Op == 10) (fun hb82 => ?_) (fun hb82 => ?_)
                                      · refine okL_guard 86 (tI y79) 85 (y47.Instr.Op == 10) rfl rfl hb82 rfl rfl (does_move rfl) ?_
                                        refine okL_guard 87 (pAt g49 0) 85 (y47.Instr.Op == 10) rfl rfl hb82 rfl rfl (does_fieldAddrP 0 Tryd.underlying48 rfl Tryd.sizeOf46 rfl rfl) ?_
                                        refine okL_guard 88 (pAt g49 2) 85 (y47.Instr.Op == 10) rfl rfl hb82 rfl rfl (does_fieldAddrP 2 Tryd.underlying46 rfl Tryd.sizeOf3 rfl rfl) ?_
                                        refine okL_guard 89 (tI y47.Instr.B) 85 (y47.Instr.Op == 10) rfl rfl hb82 rfl rfl (does_loadB1 Tryd.isAgg3 rfl 0 rfl rfl) ?_
                                        refine okL_guard 90 (tB (y79 == y47.Instr.B)) 85 (y47.Instr.Op == 10) rfl rfl hb82 rfl rfl (does_eql rfl rfl) ?_
                                        refine okL_guard 91 (tB (y79 == y47.Instr.B)) 80 (y79 != y60) rfl rfl hb81 rfl rfl (does_pick_t (y47.Instr.Op == 10) rfl hb82 rfl) ?_
                                        refine okL_nil ?_
                                        exact okX_meet (I := _) (y79 == y47.Instr.B) (and_t hb82) (cc rfl (cc rfl (cc rfl (cc rfl (cc rfl (cc rfl (cc rfl (cc rfl (cc rfl (cc rfl (cc rfl (cc rfl (cc rfl (cc rfl (cc rfl (cc rfl (cc rfl (cc rfl (cc rfl (cc rfl (cc rfl (cc rfl (cc rfl (cc rfl (cc rfl (cc rfl (cc rfl (cc rfl cn)))))))))))))))))))))))))))) rfl
                                      · refine okL_skip 86 85 (y47.Instr.Op == 10) rfl rfl hb82 rfl rfl ?_
                                        refine okL_skip 87 85 (y47.Instr.Op == 10) rfl rfl hb82 rfl rfl ?_
                                        refine okL_skip 88 85 (y47.Instr.Op == 10) rfl rfl hb82 rfl rfl ?_
                                        refine okL_skip 89 85 (y47.Instr.Op == 10) rfl rfl hb82 rfl rfl ?_
                                        refine okL_skip 90 85 (y47.Instr.Op == 10) rfl rfl hb82 rfl rfl ?_
                                        refine okL_guard 91 (tB false) 80 (y79 != y60) rfl rfl hb81 rfl rfl (does_pick_f (y47.Instr.Op == 10) rfl hb82 rfl) ?_
                                        refine okL_nil ?_
                                        exact okX_meet (I := _) false (and_f hb82) (cc rfl (cc rfl (cc rfl (cc rfl (cc rfl (cc rfl (cc rfl (cc rfl (cc rfl (cc rfl (cc rfl (cc rfl (cc rfl (cc rfl (cc rfl (cc rfl (cc rfl (cc rfl (cc rfl (cc rfl (cc rfl (cc rfl (cc rfl (cc rfl (cc rfl (cc rfl (cc rfl (cc rfl cn)))))))))))))))))))))))))))) rfl
                                    · intro x83 hx
                                      subst hx
                                      change OkL _ _ _ _ [(1, (pAt g1 0)), (3, (pAt g9 0)), (5, (Ty.val (.func (.func 97) #[] #[(.pointer (some ⟨g9, 0, none⟩))]))), (6, (tL 1 ls_SSI r26)), (7, (tI s33.1)), (9, (tI s44.1)), (10, (pAt g49 0)), (12, (tI y60)), (14, (tI y79)), (42, (tL 5 Block.ty a0.Blocks)), (43, (tI ((a0.Blocks).length : Int))), (44, (tI s33.1)), (50, (tL 6 VInstr.ty y36.Instrs)), (51, (tI ((y36.Instrs).length : Int))), (52, (tI s44.1)), (58, (tL 1 lI r50)), (59, (tI ((r50).length : Int))), (60, (tI s57.1)), (71, (tL 1 lI y64)), (72, (tI ((y64).length : Int))), (73, (tI s71.1)), (80, (tB (y79 != y60))), (81, (pAt g49 0)), (82, (pAt g49 0)), (83, (tI y47.Instr.Op)), (84, (tB (y47.Instr.Op == 10))), (85, (tB (y47.Instr.Op == 10))), (91, (tB ((y47.Instr.Op == 10) && (y79 == y47.Instr.B))))] (Item.blk g49 48 [(tI y47.Instr.Op), (tI y47.Instr.A), (tI y47.Instr.B), (tI y47.Instr.C), (tI y47.Instr.N), (tL 1 lI y47.Args)] :: Item.blk g38 43 [(tL 6 VInstr.ty y36.Instrs), (tI y36.End), (tI y36.Reg), (tI y36.Target), (tI y36.Else)] :: Item.blk g9 136 [(Ty.own v7)] :: rowL v7 92 1 lO w34 :: rowsL w34 137 1 lU s71.2 :: Item.blk g1 27 [(tI a0.Params), (tI a0.Regs), (tL 5 Block.ty a0.Blocks)] :: L)
                                      refine okL_guard 92 (tB (!((y47.Instr.Op == 10) && (y79 == y47.Instr.B)))) 80 (y79 != y60) rfl rfl hb81 rfl rfl (does_not rfl) ?_
                                      refine okL_step 93 (tB (!((y47.Instr.Op == 10) && (y79 == y47.Instr.B)))) rfl rfl (does_pick_t (y79 != y60) rfl hb81 rfl) ?_
                                      refine okL_nil ?_
                                      exact okX_meet (I := _) (!((y47.Instr.Op == 10) && (y79 == y47.Instr.B))) (and_t hb81) (cc rfl (cc rfl (cc rfl (cc rfl (cc rfl (cc rfl (cc rfl (cc rfl (cc rfl (cc rfl (cc rfl (cc rfl (cc rfl (cc rfl (cc rfl (cc rfl (cc rfl (cc rfl (cc rfl (cc rfl (cc rfl (cc rfl cn)))))))))))))))))))))) rfl
                                  · refine okL_skip 81 80 (y79 != y60) rfl rfl hb81 rfl rfl ?_
                                    refine okL_skip 82 80 (y79 != y60) rfl rfl hb81 rfl rfl ?_
                                    refine okL_skip 83 80 (y79 != y60) rfl rfl hb81 rfl rfl ?_
                                    refine okL_skip 84 80 (y79 != y60) rfl rfl hb81 rfl rfl ?_
                                    refine okL_skip 85 80 (y79 != y60) rfl rfl hb81 rfl rfl ?_
                                    refine okL_skipU 86 85 rfl rfl rfl rfl ?_
                                    refine okL_skipU 87 85 rfl rfl rfl rfl ?_
                                    refine okL_skipU 88 85 rfl rfl rfl rfl ?_
                                    refine okL_skipU 89 85 rfl rfl rfl rfl ?_
                                    refine okL_skipU 90 85 rfl rfl rfl rfl ?_
                                    refine okL_skip 91 80 (y79 != y60) rfl rfl hb81 rfl rfl ?_
                                    refine okL_skip 92 80 (y79 != y60) rfl rfl hb81 rfl rfl ?_
                                    refine okL_step 93 (tB false) rfl rfl (does_pick_f (y79 != y60) rfl hb81 rfl) ?_
                                    refine okL_nil ?_
                                    exact okX_meet (I := _) false (and_f hb81) (cc rfl (cc rfl (cc rfl (cc rfl (cc rfl (cc rfl (cc rfl (cc rfl (cc rfl (cc rfl (cc rfl (cc rfl (cc rfl (cc rfl (cc rfl (cc rfl (cc rfl (cc rfl (cc rfl (cc rfl (cc rfl (cc rfl cn)))))))))))))))))))))) rfl
                                · intro x87 hx
                                  subst hx
                                  change OkL _ _ _ _ [(1, (pAt g1 0)), (3, (pAt g9 0)), (5, (Ty.val (.func (.func 97) #[] #[(.pointer (some ⟨g9, 0, none⟩))]))), (6, (tL 1 ls_SSI r26)), (7, (tI s33.1)), (9, (tI s44.1)), (10, (pAt g49 0)), (12, (tI y60)), (14, (tI y79)), (42, (tL 5 Block.ty a0.Blocks)), (43, (tI ((a0.Blocks).length : Int))), (44, (tI s33.1)), (50, (tL 6 VInstr.ty y36.Instrs)), (51, (tI ((y36.Instrs).length : Int))), (52, (tI s44.1)), (58, (tL 1 lI r50)), (59, (tI ((r50).length : Int))), (60, (tI s57.1)), (71, (tL 1 lI y64)), (72, (tI ((y64).length : Int))), (73, (tI s71.1)), (93, (tB ((y79 != y60) && (!((y47.Instr.Op == 10) && (y79 == y47.Instr.B))))))] (Item.blk g49 48 [(tI y47.Instr.Op), (tI y47.Instr.A), (tI y47.Instr.B), (tI y47.Instr.C), (tI y47.Instr.N), (tL 1 lI y47.Args)] :: Item.blk g38 43 [(tL 6 VInstr.ty y36.Instrs), (tI y36.End), (tI y36.Reg), (tI y36.Target), (tI y36.Else)] :: Item.blk g9 136 [(Ty.own v7)] :: rowL v7 92 1 lO w34 :: rowsL w34 137 1 lU s71.2 :: Item.blk g1 27 [(tI a0.Params), (tI a0.Regs), (tL 5 Block.ty a0.Blocks)] :: L)
                                  refine okL_nil ?_
                                  refine okX_next ?_
                                  refine okC_cond (b := ((y79 != y60) && (!((y47.Instr.Op == 10) && (y79 == y47.Instr.B))))) rfl (fun hb84 => ?_) (fun hb84 => ?_)
                                  · replace h78 := ct hb84 h78
                                    refine okC_region ?_
                                    refine okL_step 94 (Ty.val (.func (.func 97) #[] #[(.pointer (some ⟨g9, 0, none⟩))])) rfl rfl (does_move rfl) ?_
                                    refine okL_step 95 (tI y60) rfl rfl (does_move rfl) ?_
                                    refine okL_step 96 (tI y79) rfl rfl (does_move rfl) ?_
                                    obtain ⟨r85, hc86, h78⟩ := bs h78
                                    refine okL_stepO 97 rfl rfl (doesO_call (As := [(tI y60), (tI y79)]) (Cs := [(pAt g9 0)]) (Item.blk g49 48 [(tI y47.Instr.Op), (tI y47.Instr.A), (tI y47.Instr.B), (tI y47.Instr.C), (tI y47.Instr.N), (tL 1 lI y47.Args)] :: Item.blk g38 43 [(tL 6 VInstr.ty y36.Instrs), (tI y36.End), (tI y36.Reg), (tI y36.Target), (tI y36.Else)] :: Item.blk g1 27 [(tI a0.Params), (tI a0.Regs), (tL 5 Block.ty a0.Blocks)] :: L) (c_regalloc_Interference_1 y60 y79 s71.2 g9 v7 w34 r85 hc86) rfl Tryd.call97 rfl rfl rfl (pm 2 rfl (pm 2 rfl (pm 2 rfl (pr _)))) (fun _ => ?_))
                                    refine okL_nil ?_
                                    refine okX_block_normal ?_
                                    refine okX_items [] (Item.blk g49 48 [(tI y47.Instr.Op), (tI y47.Instr.A), (tI y47.Instr.B), (tI y47.Instr.C), (tI y47.Instr.N), (tL 1 lI y47.Args)] :: Item.blk g38 43 [(tL 6 VInstr.ty y36.Instrs), (tI y36.End), (tI y36.Reg), (tI y36.Target), (tI y36.Else)] :: Item.blk g9 136 [(Ty.own v7)] :: rowL v7 92 1 lO w34 :: rowsL w34 137 1 lU r85 :: Item.blk g1 27 [(tI a0.Params), (tI a0.Regs), (tL 5 Block.ty a0.Blocks)] :: L) (pm 3 rfl (pm 3 rfl (pm 0 rfl (pm 0 rfl (pm 0 rfl (pm 0 rfl (pr _))))))) ?_
                                    exact okX_meet (I := _) r85 (smh h78) (cc rfl (cc rfl (cc rfl (cc rfl (cc rfl (cc rfl (cc rfl (cc rfl (cc rfl (cc rfl (cc rfl (cc rfl (cc rfl (cc rfl (cc rfl (cc rfl (cc rfl (cc rfl (cc rfl (cc rfl cn)))))))))))))))))))) rfl
                                  · replace h78 := cf hb84 h78
                                    refine okC_skip ?_
                                    refine okX_block_normal ?_
                                    exact okX_meet (I := _) s71.2 (smh h78) (cc rfl (cc rfl (cc rfl (cc rfl (cc rfl (cc rfl (cc rfl (cc rfl (cc rfl (cc rfl (cc rfl (cc rfl (cc rfl (cc rfl (cc rfl (cc rfl (cc rfl (cc rfl (cc rfl (cc rfl cn)))))))))))))))))))) rfl
                              · intro s74 hx
                                change OkC _ _ _ [(1, (pAt g1 0)), (3, (pAt g9 0)), (5, (Ty.val (.func (.func 97) #[] #[(.pointer (some ⟨g9, 0, none⟩))]))), (6, (tL 1 ls_SSI r26)), (7, (tI s33.1)), (9, (tI s44.1)), (10, (pAt g49 0)), (12, (tI y60)), (42, (tL 5 Block.ty a0.Blocks)), (43, (tI ((a0.Blocks).length : Int))), (44, (tI s33.1)), (50, (tL 6 VInstr.ty y36.Instrs)), (51, (tI ((y36.Instrs).length : Int))), (52, (tI s44.1)), (58, (tL 1 lI r50)), (59, (tI ((r50).length : Int))), (60, (tI s57.1)), (71, (tL 1 lI y64)), (72, (tI ((y64).length : Int))), (73, (tI s71.1))] (Item.blk g49 48 [(tI y47.Instr.Op), (tI y47.Instr.A), (tI y47.Instr.B), (tI y47.Instr.C), (tI y47.Instr.N), (tL 1 lI y47.Args)] :: Item.blk g38 43 [(tL 6 VInstr.ty y36.Instrs), (tI y36.End), (tI y36.Reg), (tI y36.Target), (tI y36.Else)] :: Item.blk g9 136 [(Ty.own v7)] :: rowL v7 92 1 lO w34 :: rowsL w34 137 1 lU s74 :: Item.blk g1 27 [(tI a0.Params), (tI a0.Regs), (tL 5 Block.ty a0.Blocks)] :: L)
                                obtain rfl : s74 = z76 := hx.symm
                                replace h := hz77
                                refine okC_region ?_
                                refine okL_step 98 (tI (w64 (s71.1 + 1))) rfl rfl (does_add rfl rfl) ?_
                                refine okL_step 73 (tI (w64 (s71.1 + 1))) rfl rfl (does_move rfl) ?_
                                refine okL_nil ?_
                                exact okX_again k (Nat.lt_succ_self k) ((w64 (s71.1 + 1)), s74) h (cc rfl (cc rfl (cc rfl (cc rfl (cc rfl (cc rfl (cc rfl (cc rfl (cc rfl (cc rfl (cc rfl (cc rfl (cc rfl (cc rfl (cc rfl (cc rfl (cc rfl (cc rfl (cc rfl (cc rfl cn)))))))))))))))))))) rfl
                            · replace h := cf hb73 h
                              refine okC_exit ?_
                              refine okX_then_exit ?_
                              refine okX_again_exit ?_
                              refine okX_block_hit ?_
                              exact okX_meet (I := _) s71.2 (smh h) (cc rfl (cc rfl (cc rfl (cc rfl (cc rfl (cc rfl (cc rfl (cc rfl (cc rfl (cc rfl (cc rfl (cc rfl (cc rfl (cc rfl (cc rfl (cc rfl cn)))))))))))))))) rfl
                        · intro s66 hx
                          change OkX _ _ _ [(1, (pAt g1 0)), (3, (pAt g9 0)), (5, (Ty.val (.func (.func 97) #[] #[(.pointer (some ⟨g9, 0, none⟩))]))), (6, (tL 1 ls_SSI r26)), (7, (tI s33.1)), (9, (tI s44.1)), (10, (pAt g49 0)), (42, (tL 5 Block.ty a0.Blocks)), (43, (tI ((a0.Blocks).length : Int))), (44, (tI s33.1)), (50, (tL 6 VInstr.ty y36.Instrs)), (51, (tI ((y36.Instrs).length : Int))), (52, (tI s44.1)), (58, (tL 1 lI r50)), (59, (tI ((r50).length : Int))), (60, (tI s57.1))] (Item.blk g49 48 [(tI y47.Instr.Op), (tI y47.Instr.A), (tI y47.Instr.B), (tI y47.Instr.C), (tI y47.Instr.N), (tL 1 lI y47.Args)] :: Item.blk g38 43 [(tL 6 VInstr.ty y36.Instrs), (tI y36.End), (tI y36.Reg), (tI y36.Target), (tI y36.Else)] :: Item.blk g9 136 [(Ty.own v7)] :: rowL v7 92 1 lO w34 :: rowsL w34 137 1 lU s66 :: Item.blk g1 27 [(tI a0.Params), (tI a0.Regs), (tL 5 Block.ty a0.Blocks)] :: L)
                          obtain rfl : s66 = z68 := hx.symm
                          replace h := hz69
                          refine okX_block_normal ?_
                          refine okX_next ?_
                          refine okC_region ?_
                          refine okL_step 99 (tI (w64 (s57.1 + 1))) rfl rfl (does_add rfl rfl) ?_
                          refine okL_step 60 (tI (w64 (s57.1 + 1))) rfl rfl (does_move rfl) ?_
                          refine okL_nil ?_
                          exact okX_again k (Nat.lt_succ_self k) ((w64 (s57.1 + 1)), s66) h (cc rfl (cc rfl (cc rfl (cc rfl (cc rfl (cc rfl (cc rfl (cc rfl (cc rfl (cc rfl (cc rfl (cc rfl (cc rfl (cc rfl (cc rfl (cc rfl cn)))))))))))))))) rfl
                      · replace h := cf hb59 h
                        refine okC_exit ?_
                        refine okX_then_exit ?_
                        refine okX_again_exit ?_
                        refine okX_block_hit ?_
                        exact okX_meet (I := _) s57.2 (smh h) (cc rfl (cc rfl (cc rfl (cc rfl (cc rfl (cc rfl (cc rfl (cc rfl (cc rfl (cc rfl (cc rfl cn))))))))))) rfl
                  · intro s52 hx
                    change OkX _ _ _ [(1, (pAt g1 0)), (3, (pAt g9 0)), (5, (Ty.val (.func (.func 97) #[] #[(.pointer (some ⟨g9, 0, none⟩))]))), (6, (tL 1 ls_SSI r26)), (7, (tI s33.1)), (42, (tL 5 Block.ty a0.Blocks)), (43, (tI ((a0.Blocks).length : Int))), (44, (tI s33.1)), (50, (tL 6 VInstr.ty y36.Instrs)), (51, (tI ((y36.Instrs).length : Int))), (52, (tI s44.1))] (Item.blk g49 48 [(tI y47.Instr.Op), (tI y47.Instr.A), (tI y47.Instr.B), (tI y47.Instr.C), (tI y47.Instr.N), (tL 1 lI y47.Args)] :: Item.blk g38 43 [(tL 6 VInstr.ty y36.Instrs), (tI y36.End), (tI y36.Reg), (tI y36.Target), (tI y36.Else)] :: Item.blk g9 136 [(Ty.own v7)] :: rowL v7 92 1 lO w34 :: rowsL w34 137 1 lU s52 :: Item.blk g1 27 [(tI a0.Params), (tI a0.Regs), (tL 5 Block.ty a0.Blocks)] :: L)
                    obtain rfl : s52 = z54 := hx.symm
                    replace h := hz55
                    refine okX_block_normal ?_
                    refine okX_next ?_
                    refine okC_region ?_
                    refine okL_step 100 (tI (w64 (s44.1 + 1))) rfl rfl (does_add rfl rfl) ?_
                    refine okL_step 52 (tI (w64 (s44.1 + 1))) rfl rfl (does_move rfl) ?_
                    refine okL_nil ?_
                    refine okX_items [Item.blk g49 48 [(tI y47.Instr.Op), (tI y47.Instr.A), (tI y47.Instr.B), (tI y47.Instr.C), (tI y47.Instr.N), (tL 1 lI y47.Args)]] (Item.blk g38 43 [(tL 6 VInstr.ty y36.Instrs), (tI y36.End), (tI y36.Reg), (tI y36.Target), (tI y36.Else)] :: Item.blk g9 136 [(Ty.own v7)] :: rowL v7 92 1 lO w34 :: rowsL w34 137 1 lU s52 :: Item.blk g1 27 [(tI a0.Params), (tI a0.Regs), (tL 5 Block.ty a0.Blocks)] :: L) (pm 0 rfl (pm 0 rfl (pm 0 rfl (pm 0 rfl (pm 0 rfl (pm 0 rfl (pr _))))))) ?_
                    exact okX_again k (Nat.lt_succ_self k) ((w64 (s44.1 + 1)), s52) h (cc rfl (cc rfl (cc rfl (cc rfl (cc rfl (cc rfl (cc rfl (cc rfl (cc rfl (cc rfl (cc rfl cn))))))))))) rfl
                · replace h := cf hb46 h
                  refine okC_exit ?_
                  refine okX_then_exit ?_
                  refine okX_again_exit ?_
                  refine okX_block_hit ?_
                  exact okX_meet (I := _) s44.2 (smh h) (cc rfl (cc rfl (cc rfl (cc rfl (cc rfl (cc rfl (cc rfl cn))))))) rfl
            · intro s39 hx
              change OkX _ _ _ [(1, (pAt g1 0)), (3, (pAt g9 0)), (5, (Ty.val (.func (.func 97) #[] #[(.pointer (some ⟨g9, 0, none⟩))]))), (6, (tL 1 ls_SSI r26)), (42, (tL 5 Block.ty a0.Blocks)), (43, (tI ((a0.Blocks).length : Int))), (44, (tI s33.1))] (Item.blk g38 43 [(tL 6 VInstr.ty y36.Instrs), (tI y36.End), (tI y36.Reg), (tI y36.Target), (tI y36.Else)] :: Item.blk g9 136 [(Ty.own v7)] :: rowL v7 92 1 lO w34 :: rowsL w34 137 1 lU s39 :: Item.blk g1 27 [(tI a0.Params), (tI a0.Regs), (tL 5 Block.ty a0.Blocks)] :: L)
              obtain rfl : s39 = z41 := hx.symm
              replace h := hz42
              refine okX_block_normal ?_
              refine okX_next ?_
              refine okC_region ?_
              refine okL_step 101 (tI (w64 (s33.1 + 1))) rfl rfl (does_add rfl rfl) ?_
              refine okL_step 44 (tI (w64 (s33.1 + 1))) rfl rfl (does_move rfl) ?_
              refine okL_nil ?_
              refine okX_items [Item.blk g38 43 [(tL 6 VInstr.ty y36.Instrs), (tI y36.End), (tI y36.Reg), (tI y36.Target), (tI y36.Else)]] (Item.blk g9 136 [(Ty.own v7)] :: rowL v7 92 1 lO w34 :: rowsL w34 137 1 lU s39 :: Item.blk g1 27 [(tI a0.Params), (tI a0.Regs), (tL 5 Block.ty a0.Blocks)] :: L) (pm 0 rfl (pm 0 rfl (pm 0 rfl (pm 0 rfl (pm 0 rfl (pr _)))))) ?_
              exact okX_again k (Nat.lt_succ_self k) (((w64 (s33.1 + 1)), s39), w34) h (cc rfl (cc rfl (cc rfl (cc rfl (cc rfl (cc rfl (cc rfl cn))))))) rfl
          · replace h := cf hb35 h
            refine okC_exit ?_
            refine okX_then_exit ?_
            refine okX_again_exit ?_
            refine okX_block_hit ?_
            exact okX_meet (I := _) (s33.2, w34) (smh h) (cc rfl (cc rfl cn)) rfl
      · intro x hx
        obtain ⟨s28, w29⟩ := x
        change OkX _ _ _ [(1, (pAt g1 0)), (3, (pAt g9 0))] (Item.blk g9 136 [(Ty.own v7)] :: rowL v7 92 1 lO w29 :: rowsL w29 137 1 lU s28 :: Item.blk g1 27 [(tI a0.Params), (tI a0.Regs), (tL 5 Block.ty a0.Blocks)] :: L)
        obtain rfl : s28 = z30 := hx.symm
        replace h := hz31
        refine okX_next ?_
        refine okC_seq ?_
        refine okC_region ?_
        refine okL_step 102 (pAt g1 1) rfl rfl (does_fieldAddrP 1 Tryd.underlying27 rfl Tryd.sizeOf3 rfl rfl) ?_
        refine okL_step 103 (tI a0.Regs) rfl rfl (does_loadB1 Tryd.isAgg3 rfl 3 rfl rfl) ?_
        obtain ⟨l88, hm89, h⟩ := bs h
        refine okL_stepO 104 rfl rfl (doesO_makeM lI 3 1 el22 l88 hm89 rfl rfl (fun v90 us91 => ?_))
        refine okL_step 15 (Ty.own v90) rfl rfl (does_assign rfl) ?_
        refine okL_nil ?_
        refine okX_next ?_
        refine okC_seq ?_
        refine okC_seq ?_
        refine okC_region ?_
        refine okL_step 105 (Ty.own v7) rfl rfl (does_loadB1 Tryd.isAgg136 rfl 2 rfl rfl) ?_
        refine okL_rowsLen 4 rfl (fun hl92 => ?_)
        refine okL_step 106 (tI ((s28).length : Int)) rfl rfl (does_weak (does_lenR (f := lO) (l := w29) rfl Tryd.underlying136 3 rfl rfl) (sub_eq (congrArg (fun n : Nat => tI (n : Int)) hl92))) ?_
        refine okL_step 107 (tI 0) rfl rfl (does_move rfl) ?_
        refine okL_nil ?_
        refine okX_next ?_
        obtain ⟨z95, h97, hz96⟩ := bs h
        refine okC_meetE (X := (((List (List Int)) × (List (List Int))) × ((List Value) × (List Value)))) (fun x => z95 = x.1) (fun x : (((List (List Int)) × (List (List Int))) × ((List Value) × (List Value))) => [(15, (Ty.own v90))]) (fun x : (((List (List Int)) × (List (List Int))) × ((List Value) × (List Value))) => rowL v90 31 1 lO x.2.1 :: rowsL x.2.1 3 1 lI x.1.1 :: Item.blk g9 136 [(Ty.own v7)] :: rowL v7 92 1 lO x.2.2 :: rowsL x.2.2 137 1 lU x.1.2 :: Item.blk g1 27 [(tI a0.Params), (tI a0.Regs), (tL 5 Block.ty a0.Blocks)] :: L) ?_ ?_
        · refine okC_block ?_
          refine okC_loop (X := ((Int × (List (List Int)) × (List (List Int))) × ((List Value) × (List Value)))) (fun k x => regalloc_Interference_l6 K a0 s28 k x.1 = some z95) (fun x : ((Int × (List (List Int)) × (List (List Int))) × ((List Value) × (List Value))) => [(1, (pAt g1 0)), (3, (pAt g9 0)), (15, (Ty.own v90)), (106, (tI ((s28).length : Int))), (107, (tI x.1.1))]) (fun x : ((Int × (List (List Int)) × (List (List Int))) × ((List Value) × (List Value))) => rowL v90 31 1 lO x.2.1 :: rowsL x.2.1 3 1 lI x.1.2.1 :: Item.blk g9 136 [(Ty.own v7)] :: rowL v7 92 1 lO x.2.2 :: rowsL x.2.2 137 1 lU x.1.2.2 :: Item.blk g1 27 [(tI a0.Params), (tI a0.Regs), (tL 5 Block.ty a0.Blocks)] :: L) K ((0, l88, s28), (us91, w29)) h97 (cc rfl (cc rfl (cc rfl (cc rfl (cc rfl cn))))) rfl (fun k x hI => ?_)
          obtain ⟨s98, w99⟩ := x
          change OkC _ _ _ [(1, (pAt g1 0)), (3, (pAt g9 0)), (15, (Ty.own v90)), (106, (tI ((s28).length : Int))), (107, (tI s98.1))] (rowL v90 31 1 lO w99.1 :: rowsL w99.1 3 1 lI s98.2.1 :: Item.blk g9 136 [(Ty.own v7)] :: rowL v7 92 1 lO w99.2 :: rowsL w99.2 137 1 lU s98.2.2 :: Item.blk g1 27 [(tI a0.Params), (tI a0.Regs), (tL 5 Block.ty a0.Blocks)] :: L)
          cases k with
          | zero => exact (nz hI).elim
          | succ k =>
            have h : regalloc_Interference_l6 K a0 s28 (k + 1) s98 = some z95 := hI
            rw [regalloc_Interference_l6.eq_2] at h
            refine okC_seq ?_
            refine okC_region ?_
            refine okL_step 108 (tB (decide (s98.1 < ((s28).length : Int)))) rfl rfl (does_lss rfl rfl) ?_
            refine okL_nil ?_
            refine okX_next ?_
            refine okC_seq ?_
            refine okC_cond (b := (decide (s98.1 < ((s28).length : Int)))) rfl (fun hb100 => ?_) (fun hb100 => ?_)
            · replace h := ct hb100 h
              refine okC_skip ?_
              refine okX_next ?_
              refine okC_seq ?_
              refine okC_block ?_
              refine okC_seq ?_
              refine okC_region ?_
              refine okL_step 109 (tI s98.1) rfl rfl (does_move rfl) ?_
              refine okL_step 16 (tI s98.1) rfl rfl (does_assign rfl) ?_
              refine okL_nil ?_
              refine okX_next ?_
              refine okC_seq ?_
              refine okC_region ?_
              refine okL_step 17 (tI 0) rfl rfl (does_assign rfl) ?_
              refine okL_nil ?_
              refine okX_next ?_
              obtain ⟨z103, h105, hz104⟩ := bs h
              refine okC_meetE (X := (((List (List Int)) × (List (List Int))) × (List Value))) (fun x => z103 = x.1) (fun x : (((List (List Int)) × (List (List Int))) × (List Value)) => [(1, (pAt g1 0)), (3, (pAt g9 0)), (15, (Ty.own v90)), (106, (tI ((s28).length : Int))), (107, (tI s98.1))]) (fun x : (((List (List Int)) × (List (List Int))) × (List Value)) => rowL v90 31 1 lO x.2 :: rowsL x.2 3 1 lI x.1.1 :: Item.blk g9 136 [(Ty.own v7)] :: rowL v7 92 1 lO w99.2 :: rowsL w99.2 137 1 lU x.1.2 :: Item.blk g1 27 [(tI a0.Params), (tI a0.Regs), (tL 5 Block.ty a0.Blocks)] :: L) ?_ ?_
              · refine okC_block ?_
                refine okC_loop (X := ((Int × (List (List Int)) × (List (List Int))) × (List Value))) (fun k x => regalloc_Interference_l7 K a0 s98 k x.1 = some z103) (fun x : ((Int × (List (List Int)) × (List (List Int))) × (List Value)) => [(1, (pAt g1 0)), (3, (pAt g9 0)), (15, (Ty.own v90)), (16, (tI s98.1)), (17, (tI x.1.1)), (106, (tI ((s28).length : Int))), (107, (tI s98.1))]) (fun x : ((Int × (List (List Int)) × (List (List Int))) × (List Value)) => rowL v90 31 1 lO x.2 :: rowsL x.2 3 1 lI x.1.2.1 :: Item.blk g9 136 [(Ty.own v7)] :: rowL v7 92 1 lO w99.2 :: rowsL w99.2 137 1 lU x.1.2.2 :: Item.blk g1 27 [(tI a0.Params), (tI a0.Regs), (tL 5 Block.ty a0.Blocks)] :: L) K ((0, s98.2.1, s98.2.2), w99.1) h105 (cc rfl (cc rfl (cc rfl (cc rfl (cc rfl (cc rfl (cc rfl cn))))))) rfl (fun k x hI => ?_)
                obtain ⟨s106, w107⟩ := x
                change OkC _ _ _ [(1, (pAt g1 0)), (3, (pAt g9 0)), (15, (Ty.own v90)), (16, (tI s98.1)), (17, (tI s106.1)), (106, (tI ((s28).length : Int))), (107, (tI s98.1))] (rowL v90 31 1 lO w107 :: rowsL w107 3 1 lI s106.2.1 :: Item.blk g9 136 [(Ty.own v7)] :: rowL v7 92 1 lO w99.2 :: rowsL w99.2 137 1 lU s106.2.2 :: Item.blk g1 27 [(tI a0.Params), (tI a0.Regs), (tL 5 Block.ty a0.Blocks)] :: L)
                cases k with
                | zero => exact (nz hI).elim
                | succ k =>
                  have h : regalloc_Interference_l7 K a0 s98 (k + 1) s106 = some z103 := hI
                  rw [regalloc_Interference_l7.eq_2] at h
                  refine okC_seq ?_
                  refine okC_seq ?_
                  refine okC_region ?_
                  refine okL_step 110 (tI s106.1) rfl rfl (does_move rfl) ?_
                  refine okL_step 111 (pAt g1 1) rfl rfl (does_fieldAddrP 1 Tryd.underlying27 rfl Tryd.sizeOf3 rfl rfl) ?_
                  refine okL_step 112 (tI a0.Regs) rfl rfl (does_loadB1 Tryd.isAgg3 rfl 5 rfl rfl) ?_
                  refine okL_step 113 (tB (decide (s106.1 < a0.Regs))) rfl rfl (does_lss rfl rfl) ?_
                  refine okL_nil ?_
                  refine okX_next ?_
                  refine okC_cond (b := (decide (s106.1 < a0.Regs))) rfl (fun hb108 => ?_) (fun hb108 => ?_)
                  · replace h := ct hb108 h
                    refine okC_skip ?_
                    refine okX_next ?_
                    obtain ⟨z111, h113, hz112⟩ := bs h
                    refine okC_meet (X := (((List (List Int)) × (List (List Int))) × (List Value))) (fun x => z111 = x.1) (fun x : (((List (List Int)) × (List (List Int))) × (List Value)) => [(1, (pAt g1 0)), (3, (pAt g9 0)), (15, (Ty.own v90)), (16, (tI s98.1)), (17, (tI s106.1)), (106, (tI ((s28).length : Int))), (107, (tI s98.1))]) (fun x : (((List (List Int)) × (List (List Int))) × (List Value)) => rowL v90 31 1 lO x.2 :: rowsL x.2 3 1 lI x.1.1 :: Item.blk g9 136 [(Ty.own v7)] :: rowL v7 92 1 lO w99.2 :: rowsL w99.2 137 1 lU x.1.2 :: Item.blk g1 27 [(tI a0.Params), (tI a0.Regs), (tL 5 Block.ty a0.Blocks)] :: L) ?_ ?_
                    · refine okC_block ?_
                      refine okC_seq ?_
                      refine okC_region ?_
                      refine okL_step 116 (Ty.own v7) rfl rfl (does_loadB1 Tryd.isAgg136 rfl 2 rfl rfl) ?_
                      refine okL_step 117 (tI s98.1) rfl rfl (does_move rfl) ?_
                      obtain ⟨y114, hi115, h113⟩ := bs h113
                      refine okL_open (m := s98.1) hi115 (pm 4 rfl (pr _)) (fun u116 hu117 => ?_)
                      refine okL_step 118 (Ty.rptr v7 (s98.1.toNat * 1)) rfl rfl (does_indexR (f := lO) (l := w99.2) (m := s98.1) el136 5 u116 hu117 rfl rfl rfl) ?_
                      refine okL_step 119 (Ty.own u116) rfl rfl (does_loadR1 5 u116 0 Tryd.isAgg92 hu117 rfl rfl rfl) ?_
                      refine okL_step 120 (tI s106.1) rfl rfl (does_move rfl) ?_
                      refine okL_step 121 (tI (w64 (Int.tdiv s106.1 64))) rfl rfl (does_quo (by decide) rfl rfl) ?_
                      obtain ⟨y118, hi119, h113⟩ := bs h113
                      refine okL_step 122 (Ty.rptr u116 ((w64 (Int.tdiv s106.1 64)).toNat * 1)) rfl rfl (does_indexR (f := lU) (l := y114) (m := (w64 (Int.tdiv s106.1 64))) el92 0 y118 hi119 rfl rfl rfl) ?_
                      refine okL_step 123 (tK .u64 y118) rfl rfl (does_loadR1 (sz := 1) (f := lU) (l := y114) 0 y118 0 Tryd.isAgg137 hi119 rfl rfl rfl) ?_
                      refine okL_step 124 (tI s106.1) rfl rfl (does_move rfl) ?_
                      refine okL_step 125 (tI (Int.tmod s106.1 64)) rfl rfl (does_rem (by decide) rfl rfl) ?_
                      refine okL_step 126 (tK .u64 (u64 (Int.tmod s106.1 64))) rfl rfl (does_convert Tryd.underlying3 Tryd.underlying138 rfl) ?_
                      refine okL_step 127 (tK .u64 (bShr .u64 y118 (u64 (Int.tmod s106.1 64)))) rfl rfl (does_shr (wrap_u64_nonneg _) rfl rfl) ?_
                      refine okL_step 128 (tK .u64 (bAnd .u64 (bShr .u64 y118 (u64 (Int.tmod s106.1 64))) 1)) rfl rfl (does_and rfl rfl) ?_
                      refine okL_step 129 (tB ((bAnd .u64 (bShr .u64 y118 (u64 (Int.tmod s106.1 64))) 1) == 1)) rfl rfl (does_eql rfl rfl) ?_
                      refine okL_close (m := s98.1) hi115 hu117 (pm 0 rfl (pm 0 rfl (pr _))) ?_
                      refine okL_nil ?_
                      refine okX_next ?_
                      refine okC_cond (b := ((bAnd .u64 (bShr .u64 y118 (u64 (Int.tmod s106.1 64))) 1) == 1)) rfl (fun hb120 => ?_) (fun hb120 => ?_)
                      · replace h113 := ct hb120 h113
                        refine okC_region ?_
                        refine okL_step 130 (Ty.own v90) rfl rfl (does_move rfl) ?_
                        refine okL_step 131 (tI s98.1) rfl rfl (does_move rfl) ?_
                        refine okL_step 132 (Ty.own v90) rfl rfl (does_move rfl) ?_
                        refine okL_step 133 (tI s98.1) rfl rfl (does_move rfl) ?_
                        obtain ⟨y121, hi122, h113⟩ := bs h113
                        refine okL_open (m := s98.1) hi122 (pm 2 rfl (pr _)) (fun u123 hu124 => ?_)
                        refine okL_step 134 (Ty.rptr v90 (s98.1.toNat * 1)) rfl rfl (does_indexR (f := lO) (l := w107) (m := s98.1) el22 3 u123 hu124 rfl rfl rfl) ?_
                        refine okL_step 135 (Ty.own u123) rfl rfl (does_loadR1 3 u123 0 Tryd.isAgg31 hu124 rfl rfl rfl) ?_
                        refine okL_step 136 (tI s106.1) rfl rfl (does_move rfl) ?_
                        refine okL_step 137 (tL 1 lI ([s106.1] : List Int)) rfl rfl (does_buildSlice (f := lI) ([s106.1] : List Int) [(tI s106.1)] el31 rfl rfl rfl (fc [(tI s106.1)] 0 rfl (part_one (one_i _)) rfl rfl (fn_ rfl)) rfl (fun _ => rfl)) ?_
                        obtain ⟨l125, ha126, h113⟩ := bs h113
                        refine okL_stepO 138 rfl rfl (doesO_append (f := lI) (l := y121) (m := ([s106.1] : List Int)) el31 0 l125 (fun v127 => rowL v127 3 1 lI l125 :: rowsL (w107.eraseIdx s98.1.toNat) 3 1 lI (s106.2.1.eraseIdx s98.1.toNat) :: rowsL w99.2 137 1 lU (s106.2.2.set s98.1.toNat y114) :: rowL v90 31 1 lO w107 :: Item.blk g9 136 [(Ty.own v7)] :: rowL v7 92 1 lO w99.2 :: Item.blk g1 27 [(tI a0.Params), (tI a0.Regs), (tL 5 Block.ty a0.Blocks)] :: L) ha126 rfl rfl rfl (fun _ => rfl) (fun v127 => ?_))
                        refine okL_step 139 (Ty.rptr v90 (s98.1.toNat * 1)) rfl rfl (does_indexR (f := lO) (l := w107) (m := s98.1) el22 3 u123 hu124 rfl rfl rfl) ?_
                        refine okL_stepU rfl (doesO_storeR (f := lO) (l := w107) (sz := 1) (ps := [(Ty.own v127)]) (y0 := u123) (y1 := v127) (m := s98.1) 3 0 (w107.set s98.1.toNat v127) (rowL v127 3 1 lI l125 :: rowsL (w107.eraseIdx s98.1.toNat) 3 1 lI (s106.2.1.eraseIdx s98.1.toNat) :: rowsL w99.2 137 1 lU (s106.2.2.set s98.1.toNat y114) :: rowL v90 31 1 lO (w107.set s98.1.toNat v127) :: Item.blk g9 136 [(Ty.own v7)] :: rowL v7 92 1 lO w99.2 :: Item.blk g1 27 [(tI a0.Params), (tI a0.Regs), (tL 5 Block.ty a0.Blocks)] :: L) rfl rfl (part_one (one_own _)) Tryd.sizeOf31 rfl hu124 rfl rfl rfl rfl rfl ?_)
                        refine okL_close2 (m := s98.1) hi122 hu124 (pm 0 rfl (pm 0 rfl (pr _))) ?_
                        refine okL_nil ?_
                        refine okX_block_normal ?_
                        refine okX_items [] (rowL v90 31 1 lO (w107.set s98.1.toNat v127) :: rowsL (w107.set s98.1.toNat v127) 3 1 lI (s106.2.1.set s98.1.toNat l125) :: Item.blk g9 136 [(Ty.own v7)] :: rowL v7 92 1 lO w99.2 :: rowsL w99.2 137 1 lU (s106.2.2.set s98.1.toNat y114) :: Item.blk g1 27 [(tI a0.Params), (tI a0.Regs), (tL 5 Block.ty a0.Blocks)] :: L) (pm 2 rfl (pm 0 rfl (pm 1 rfl (pm 1 rfl (pm 0 rfl (pm 0 rfl (pr _))))))) ?_
                        exact okX_meet (I := _) (((s106.2.1.set s98.1.toNat l125), (s106.2.2.set s98.1.toNat y114)), (w107.set s98.1.toNat v127)) (smh h113) (cc rfl (cc rfl (cc rfl (cc rfl (cc rfl (cc rfl (cc rfl cn))))))) rfl
                      · replace h113 := cf hb120 h113
                        refine okC_skip ?_
                        refine okX_block_normal ?_
                        refine okX_items [] (rowL v90 31 1 lO w107 :: rowsL w107 3 1 lI s106.2.1 :: Item.blk g9 136 [(Ty.own v7)] :: rowL v7 92 1 lO w99.2 :: rowsL w99.2 137 1 lU (s106.2.2.set s98.1.toNat y114) :: Item.blk g1 27 [(tI a0.Params), (tI a0.Regs), (tL 5 Block.ty a0.Blocks)] :: L) (pm 1 rfl (pm 1 rfl (pm 1 rfl (pm 1 rfl (pm 0 rfl (pm 0 rfl (pr _))))))) ?_
                        exact okX_meet (I := _) ((s106.2.1, (s106.2.2.set s98.1.toNat y114)), w107) (smh h113) (cc rfl (cc rfl (cc rfl (cc rfl (cc rfl (cc rfl (cc rfl cn))))))) rfl
                    · intro x hx
                      obtain ⟨s109, w110⟩ := x
                      change OkC _ _ _ [(1, (pAt g1 0)), (3, (pAt g9 0)), (15, (Ty.own v90)), (16, (tI s98.1)), (17, (tI s106.1)), (106, (tI ((s28).length : Int))), (107, (tI s98.1))] (rowL v90 31 1 lO w110 :: rowsL w110 3 1 lI s109.1 :: Item.blk g9 136 [(Ty.own v7)] :: rowL v7 92 1 lO w99.2 :: rowsL w99.2 137 1 lU s109.2 :: Item.blk g1 27 [(tI a0.Params), (tI a0.Regs), (tL 5 Block.ty a0.Blocks)] :: L)
                      obtain rfl : s109 = z111 := hx.symm
                      replace h := hz112
                      refine okC_region ?_
                      refine okL_step 114 (tI s106.1) rfl rfl (does_move rfl) ?_
                      refine okL_step 115 (tI (w64 (s106.1 + 1))) rfl rfl (does_add rfl rfl) ?_
                      refine okL_step 17 (tI (w64 (s106.1 + 1))) rfl rfl (does_assign rfl) ?_
                      refine okL_nil ?_
                      exact okX_again k (Nat.lt_succ_self k) (((w64 (s106.1 + 1)), s109.1, s109.2), w110) h (cc rfl (cc rfl (cc rfl (cc rfl (cc rfl (cc rfl (cc rfl cn))))))) rfl
                  · replace h := cf hb108 h
                    refine okC_exit ?_
                    refine okX_then_exit ?_
                    refine okX_again_exit ?_
                    refine okX_block_hit ?_
                    exact okX_meet (I := _) ((s106.2.1, s106.2.2), w107) (smh h) (cc rfl (cc rfl (cc rfl (cc rfl (cc rfl cn))))) rfl
              · intro x hx
                obtain ⟨s101, w102⟩ := x
                change OkX _ _ _ [(1, (pAt g1 0)), (3, (pAt g9 0)), (15, (Ty.own v90)), (106, (tI ((s28).length : Int))), (107, (tI s98.1))] (rowL v90 31 1 lO w102 :: rowsL w102 3 1 lI s101.1 :: Item.blk g9 136 [(Ty.own v7)] :: rowL v7 92 1 lO w99.2 :: rowsL w99.2 137 1 lU s101.2 :: Item.blk g1 27 [(tI a0.Params), (tI a0.Regs), (tL 5 Block.ty a0.Blocks)] :: L)
                obtain rfl : s101 = z103 := hx.symm
                replace h := hz104
                refine okX_block_normal ?_
                refine okX_next ?_
                refine okC_region ?_
                refine okL_step 140 (tI (w64 (s98.1 + 1))) rfl rfl (does_add rfl rfl) ?_
                refine okL_step 107 (tI (w64 (s98.1 + 1))) rfl rfl (does_move rfl) ?_
                refine okL_nil ?_
                exact okX_again k (Nat.lt_succ_self k) (((w64 (s98.1 + 1)), s101.1, s101.2), (w102, w99.2)) h (cc rfl (cc rfl (cc rfl (cc rfl (cc rfl cn))))) rfl
            · replace h := cf hb100 h
              refine okC_exit ?_
              refine okX_then_exit ?_
              refine okX_again_exit ?_
              refine okX_block_hit ?_
              exact okX_meet (I := _) ((s98.2.1, s98.2.2), (w99.1, w99.2)) (smh h) (cc rfl cn) rfl
        · intro x hx
          obtain ⟨s93, w94⟩ := x
          change OkX _ _ _ [(15, (Ty.own v90))] (rowL v90 31 1 lO w94.1 :: rowsL w94.1 3 1 lI s93.1 :: Item.blk g9 136 [(Ty.own v7)] :: rowL v7 92 1 lO w94.2 :: rowsL w94.2 137 1 lU s93.2 :: Item.blk g1 27 [(tI a0.Params), (tI a0.Regs), (tL 5 Block.ty a0.Blocks)] :: L)
          obtain rfl : s93 = z95 := hx.symm
          replace h := hz96
          refine okX_next ?_
          refine okC_seq ?_
          refine okC_region ?_
          refine okL_step 141 (Ty.own v90) rfl rfl (does_move rfl) ?_
          refine okL_step 2 (Ty.own v90) rfl rfl (does_assign rfl) ?_
          refine okL_nil ?_
          refine okX_next ?_
          refine okC_ret ?_
          obtain rfl := (smh h).symm
          refine okX_publishM [15, 141, 2] (pm 0 rfl (pm 0 rfl (pr _))) (ac rfl (ac rfl (ac rfl an))) ?_
          refine okX_items [Item.blk g9 136 [(Ty.own v7)], rowL v7 92 1 lO w94.2, rowsL w94.2 137 1 lU s93.2, Item.blk g1 27 [(tI a0.Params), (tI a0.Regs), (tL 5 Block.ty a0.Blocks)]] (L) (pm 0 rfl (pm 0 rfl (pm 0 rfl (pm 0 rfl (pr _))))) ?_
          exact okX_ret1 () Tryd.results53 rfl rfl

def regalloc_allocator_spill  (a0 : RegallocAllocator) (a1 : Spill) : Option RegallocAllocator :=
  (Option.bind (idx a0.spilled a1.Reg) (fun y2 => (Option.bind (app 56 a0.a.Spills ([a1] : List Spill)) (fun l4 => (some (⟨a0.c, a0.at_, (a0.spilled.set a1.Reg.toNat true), (⟨a0.a.Locations, l4, a0.a.Slots⟩ : Allocation)⟩ : RegallocAllocator))))))

theorem c_regalloc_allocator_spill  (a0 : RegallocAllocator) (a1 : Spill) (g0 : Nat) (v0_4 : Value) (v0_5 : Value) (v0_6 : Value) (r : RegallocAllocator) (h : regalloc_allocator_spill  a0 a1 = some r) : CallOk Tryd.prog glob 117 [(pAt g0 0), (Ty.agg [(tI a1.Reg), (tI a1.Reason), (tI a1.Block), (tI a1.Index), (tL 1 lI a1.Others)])] [Item.blk g0 135 [(tI a0.c.Params), (tI a0.c.Regs), (tL 5 Block.ty a0.c.Blocks), (tL 1 ls_SSI a0.at_), (Ty.own v0_4), (Ty.own v0_5), (Ty.own v0_6), (tI a0.a.Slots)], rowL v0_4 4 1 lB a0.spilled, rowL v0_5 72 2 Location.ty a0.a.Locations, rowL v0_6 76 5 Spill.ty a0.a.Spills] Value (fun x : Value => ((Ty.tup []), [Item.blk g0 135 [(tI r.c.Params), (tI r.c.Regs), (tL 5 Block.ty r.c.Blocks), (tL 1 ls_SSI r.at_), (Ty.own v0_4), (Ty.own v0_5), (Ty.own x), (tI r.a.Slots)], rowL v0_4 4 1 lB r.spilled, rowL v0_5 72 2 Location.ty r.a.Locations, rowL x 76 5 Spill.ty r.a.Spills])) := by
  refine call_of_code Tryd.func117 rfl Tryd.ntmps117 rfl (fun L w => ?_)
  change OkC _ _ _ [(0, (pAt g0 0)), (1, (Ty.agg [(tI a1.Reg), (tI a1.Reason), (tI a1.Block), (tI a1.Index), (tL 1 lI a1.Others)]))] (Item.blk g0 135 [(tI a0.c.Params), (tI a0.c.Regs), (tL 5 Block.ty a0.c.Blocks), (tL 1 ls_SSI a0.at_), (Ty.own v0_4), (Ty.own v0_5), (Ty.own v0_6), (tI a0.a.Slots)] :: rowL v0_4 4 1 lB a0.spilled :: rowL v0_5 72 2 Location.ty a0.a.Locations :: rowL v0_6 76 5 Spill.ty a0.a.Spills :: L)
  unfold regalloc_allocator_spill at h
  refine okC_seq ?_
  refine okC_region ?_
  refine okL_stepO 3 rfl rfl (doesO_box [(tI a1.Reg), (tI a1.Reason), (tI a1.Block), (tI a1.Index), (tL 1 lI a1.Others)] rfl (part_agg _) (fun g1 => ?_))
  refine okL_nil ?_
  refine okX_next ?_
  refine okC_seq ?_
  refine okC_cov [(0, (pAt g0 0)), (3, (pAt g1 0))] (cc rfl (cc rfl cn)) ?_
  refine okC_draw 6 [some (4, (pAt g0 0)), some (5, (pAt g0 0)), some (6, (pAt g0 4)), some (7, (Ty.own v0_4)), some (8, (pAt g1 0)), some (9, (tI a1.Reg))] ⟨Item.blk g1 76 [(tI a1.Reg), (tI a1.Reason), (tI a1.Block), (tI a1.Index), (tL 1 lI a1.Others)] :: Item.blk g0 135 [(tI a0.c.Params), (tI a0.c.Regs), (tL 5 Block.ty a0.c.Blocks), (tL 1 ls_SSI a0.at_), (Ty.own v0_4), (Ty.own v0_5), (Ty.own v0_6), (tI a0.a.Slots)] :: rowL v0_4 4 1 lB a0.spilled :: rowL v0_5 72 2 Location.ty a0.a.Locations :: rowL v0_6 76 5 Spill.ty a0.a.Spills :: ([] : List Item), Item.blk g1 76 [(tI a1.Reg), (tI a1.Reason), (tI a1.Block), (tI a1.Index), (tL 1 lI a1.Others)] :: Item.blk g0 135 [(tI a0.c.Params), (tI a0.c.Regs), (tL 5 Block.ty a0.c.Blocks), (tL 1 ls_SSI a0.at_), (Ty.own v0_4), (Ty.own v0_5), (Ty.own v0_6), (tI a0.a.Slots)] :: rowL v0_4 4 1 lB a0.spilled :: rowL v0_5 72 2 Location.ty a0.a.Locations :: rowL v0_6 76 5 Spill.ty a0.a.Spills :: ([] : List Item), []⟩ [] mixed rfl rfl (by kernel_rfl) rfl (by kernel_rfl) rfl rfl rfl (fun _ h => List.Sublist.subset (.cons_cons _ (.cons_cons _ (.cons_cons _ (.cons_cons _ (.cons_cons _ (List.nil_sublist _)))))) h) (fun _ h => List.Sublist.subset (.cons_cons _ (.cons_cons _ (.cons_cons _ (.cons_cons _ (.cons_cons _ (List.nil_sublist _)))))) h) rfl (by kernel_rfl) (.inr ⟨by kernel_rfl, by kernel_rfl⟩) (by kernel_rfl) (by kernel_rfl) (dc (draw_plain rfl (does_move rfl)) (dc (draw_plain rfl (does_nilCheck rfl)) (dc (draw_plain rfl (does_fieldAddrP 4 Tryd.underlying135 rfl Tryd.sizeOf79 rfl rfl)) (dc (draw_plain rfl (does_loadB1 Tryd.isAgg79 rfl 1 rfl rfl)) (dc (draw_plain rfl (does_fieldAddrP 0 Tryd.underlying76 rfl Tryd.sizeOf3 rfl rfl)) (dc (draw_plain rfl (does_loadB1 Tryd.isAgg3 rfl 0 rfl rfl)) (dn))))))) ?_
  refine ch_end ?_
  change OkL _ _ _ _ [(4, (pAt g0 0)), (5, (pAt g0 0)), (6, (pAt g0 4)), (7, (Ty.own v0_4)), (8, (pAt g1 0)), (9, (tI a1.Reg)), (0, (pAt g0 0)), (3, (pAt g1 0))] (Item.blk g1 76 [(tI a1.Reg), (tI a1.Reason), (tI a1.Block), (tI a1.Index), (tL 1 lI a1.Others)] :: Item.blk g0 135 [(tI a0.c.Params), (tI a0.c.Regs), (tL 5 Block.ty a0.c.Blocks), (tL 1 ls_SSI a0.at_), (Ty.own v0_4), (Ty.own v0_5), (Ty.own v0_6), (tI a0.a.Slots)] :: rowL v0_4 4 1 lB a0.spilled :: rowL v0_5 72 2 Location.ty a0.a.Locations :: rowL v0_6 76 5 Spill.ty a0.a.Spills :: L)
  obtain ⟨y2, hi3, h⟩ := bs h
  refine okL_step 10 (Ty.rptr v0_4 (a1.Reg.toNat * 1)) rfl rfl (does_indexR (f := lB) (l := a0.spilled) (m := a1.Reg) el79 2 y2 hi3 rfl rfl rfl) ?_
  refine okL_stepU rfl (doesO_storeR (f := lB) (l := a0.spilled) (sz := 1) (ps := [(tB true)]) (y0 := y2) (y1 := true) (m := a1.Reg) 2 0 (a0.spilled.set a1.Reg.toNat true) (Item.blk g1 76 [(tI a1.Reg), (tI a1.Reason), (tI a1.Block), (tI a1.Index), (tL 1 lI a1.Others)] :: Item.blk g0 135 [(tI a0.c.Params), (tI a0.c.Regs), (tL 5 Block.ty a0.c.Blocks), (tL 1 ls_SSI a0.at_), (Ty.own v0_4), (Ty.own v0_5), (Ty.own v0_6), (tI a0.a.Slots)] :: rowL v0_4 4 1 lB (a0.spilled.set a1.Reg.toNat true) :: rowL v0_5 72 2 Location.ty a0.a.Locations :: rowL v0_6 76 5 Spill.ty a0.a.Spills :: L) rfl rfl (part_one (one_b _)) Tryd.sizeOf4 rfl hi3 rfl rfl rfl rfl rfl ?_)
  refine okL_nil ?_
  refine okX_next ?_
  refine okC_cov [(0, (pAt g0 0)), (3, (pAt g1 0))] (cc rfl (cc rfl cn)) ?_
  obtain ⟨l4, ha5, h⟩ := bs h
  refine okC_draw 9 [some (11, (pAt g0 0)), some (12, (pAt g0 0)), some (13, (pAt g0 0)), some (14, (pAt g0 5)), some (15, (pAt g0 6)), some (16, (Ty.own v0_6)), some (17, (Ty.agg [(tI a1.Reg), (tI a1.Reason), (tI a1.Block), (tI a1.Index), (tL 1 lI a1.Others)])), some (18, (tL 5 Spill.ty ([a1] : List Spill))), none] ⟨Item.blk g1 76 [(tI a1.Reg), (tI a1.Reason), (tI a1.Block), (tI a1.Index), (tL 1 lI a1.Others)] :: Item.blk g0 135 [(tI a0.c.Params), (tI a0.c.Regs), (tL 5 Block.ty a0.c.Blocks), (tL 1 ls_SSI a0.at_), (Ty.own v0_4), (Ty.own v0_5), (Ty.own v0_6), (tI a0.a.Slots)] :: rowL v0_4 4 1 lB (a0.spilled.set a1.Reg.toNat true) :: rowL v0_5 72 2 Location.ty a0.a.Locations :: ([] : List Item), Item.blk g1 76 [(tI a1.Reg), (tI a1.Reason), (tI a1.Block), (tI a1.Index), (tL 1 lI a1.Others)] :: Item.blk g0 135 [(tI a0.c.Params), (tI a0.c.Regs), (tL 5 Block.ty a0.c.Blocks), (tL 1 ls_SSI a0.at_), (Ty.own v0_4), (Ty.own v0_5), (Ty.own v0_6), (tI a0.a.Slots)] :: rowL v0_4 4 1 lB (a0.spilled.set a1.Reg.toNat true) :: rowL v0_5 72 2 Location.ty a0.a.Locations :: rowL v0_6 76 5 Spill.ty a0.a.Spills :: ([] : List Item), [8]⟩ [8] mixed rfl rfl (by kernel_rfl) rfl (by kernel_rfl) rfl rfl rfl (fun _ h => List.Sublist.subset (.cons_cons _ (.cons_cons _ (.cons_cons _ (.cons_cons _ (List.nil_sublist _))))) h) (fun _ h => List.Sublist.subset (.cons_cons _ (.cons_cons _ (.cons_cons _ (.cons_cons _ (.cons_cons _ (List.nil_sublist _)))))) h) rfl (by kernel_rfl) (.inr ⟨by kernel_rfl, by kernel_rfl⟩) (by kernel_rfl) (by kernel_rfl) (dc (draw_plain rfl (does_move rfl)) (dc (draw_plain rfl (does_move rfl)) (dc (draw_plain rfl (does_nilCheck rfl)) (dc (draw_plain rfl (does_fieldAddrP 5 Tryd.underlying135 rfl Tryd.sizeOf66 rfl rfl)) (dc (draw_plain rfl (does_fieldAddrP 6 Tryd.underlying66 rfl Tryd.sizeOf64 rfl rfl)) (dc (draw_plain rfl (does_loadB1 Tryd.isAgg64 rfl 1 rfl rfl)) (dc (draw_plain rfl (does_loadBA [(tI a1.Reg), (tI a1.Reason), (tI a1.Block), (tI a1.Index), (tL 1 lI a1.Others)] Tryd.isAgg76 Tryd.sizeOf76 rfl 0 rfl rfl rfl)) (dc (draw_plain rfl (does_buildSlice (f := Spill.ty) ([a1] : List Spill) [(tI a1.Reg), (tI a1.Reason), (tI a1.Block), (tI a1.Index), (tL 1 lI a1.Others)] el64 rfl rfl rfl (fc [(tI a1.Reg), (tI a1.Reason), (tI a1.Block), (tI a1.Index), (tL 1 lI a1.Others)] 0 rfl (part_agg _) rfl rfl (fn_ rfl)) rfl (fun _ => rfl))) (ds (dn)))))))))) ?_
  refine ch_step [8] rfl (ap_cons (ch_at _ rfl rfl (doesO_append (f := Spill.ty) (l := a0.a.Spills) (m := ([a1] : List Spill)) el64 4 l4 (fun v6 => Item.blk g1 76 [(tI a1.Reg), (tI a1.Reason), (tI a1.Block), (tI a1.Index), (tL 1 lI a1.Others)] :: Item.blk g0 135 [(tI a0.c.Params), (tI a0.c.Regs), (tL 5 Block.ty a0.c.Blocks), (tL 1 ls_SSI a0.at_), (Ty.own v0_4), (Ty.own v0_5), (Ty.own v0_6), (tI a0.a.Slots)] :: rowL v0_4 4 1 lB (a0.spilled.set a1.Reg.toNat true) :: rowL v0_5 72 2 Location.ty a0.a.Locations :: rowL v6 76 5 Spill.ty l4 :: L) ha5 rfl rfl rfl (fun _ => rfl) (fun v6 => ?_))) (ap_nil))
  refine ⟨⟨(fun _ h => List.Sublist.subset (.cons_cons _ (.cons_cons _ (.cons_cons _ (.cons_cons _ (List.nil_sublist _))))) h), .inl rfl⟩, ?_⟩
  refine ch_end ?_
  change OkL _ _ _ _ [(11, (pAt g0 0)), (12, (pAt g0 0)), (13, (pAt g0 0)), (14, (pAt g0 5)), (15, (pAt g0 6)), (16, (Ty.own v0_6)), (17, (Ty.agg [(tI a1.Reg), (tI a1.Reason), (tI a1.Block), (tI a1.Index), (tL 1 lI a1.Others)])), (18, (tL 5 Spill.ty ([a1] : List Spill))), (19, (Ty.own v6)), (0, (pAt g0 0)), (3, (pAt g1 0))] (Item.blk g1 76 [(tI a1.Reg), (tI a1.Reason), (tI a1.Block), (tI a1.Index), (tL 1 lI a1.Others)] :: Item.blk g0 135 [(tI a0.c.Params), (tI a0.c.Regs), (tL 5 Block.ty a0.c.Blocks), (tL 1 ls_SSI a0.at_), (Ty.own v0_4), (Ty.own v0_5), (Ty.own v0_6), (tI a0.a.Slots)] :: rowL v0_4 4 1 lB (a0.spilled.set a1.Reg.toNat true) :: rowL v0_5 72 2 Location.ty a0.a.Locations :: rowL v6 76 5 Spill.ty l4 :: L)
  refine okL_step 20 (pAt g0 0) rfl rfl (does_nilCheck rfl) ?_
  refine okL_step 21 (pAt g0 5) rfl rfl (does_fieldAddrP 5 Tryd.underlying135 rfl Tryd.sizeOf66 rfl rfl) ?_
  refine okL_step 22 (pAt g0 6) rfl rfl (does_fieldAddrP 6 Tryd.underlying66 rfl Tryd.sizeOf64 rfl rfl) ?_
  refine okL_stepU rfl (doesO_storeB (ps := [(Ty.own v6)]) 1 [(tI a0.c.Params), (tI a0.c.Regs), (tL 5 Block.ty a0.c.Blocks), (tL 1 ls_SSI a0.at_), (Ty.own v0_4), (Ty.own v0_5), (Ty.own v6), (tI a0.a.Slots)] (Item.blk g1 76 [(tI a1.Reg), (tI a1.Reason), (tI a1.Block), (tI a1.Index), (tL 1 lI a1.Others)] :: Item.blk g0 135 [(tI a0.c.Params), (tI a0.c.Regs), (tL 5 Block.ty a0.c.Blocks), (tL 1 ls_SSI a0.at_), (Ty.own v0_4), (Ty.own v0_5), (Ty.own v6), (tI a0.a.Slots)] :: rowL v0_4 4 1 lB (a0.spilled.set a1.Reg.toNat true) :: rowL v0_5 72 2 Location.ty a0.a.Locations :: rowL v6 76 5 Spill.ty l4 :: L) rfl rfl (part_one (one_own _)) Tryd.sizeOf64 rfl rfl rfl rfl ?_)
  refine okL_nil ?_
  obtain rfl := (smh h).symm
  refine okX_items [Item.blk g1 76 [(tI a1.Reg), (tI a1.Reason), (tI a1.Block), (tI a1.Index), (tL 1 lI a1.Others)]] (Item.blk g0 135 [(tI a0.c.Params), (tI a0.c.Regs), (tL 5 Block.ty a0.c.Blocks), (tL 1 ls_SSI a0.at_), (Ty.own v0_4), (Ty.own v0_5), (Ty.own v6), (tI a0.a.Slots)] :: rowL v0_4 4 1 lB (a0.spilled.set a1.Reg.toNat true) :: rowL v0_5 72 2 Location.ty a0.a.Locations :: rowL v6 76 5 Spill.ty l4 :: L) (pm 0 rfl (pm 0 rfl (pm 0 rfl (pm 0 rfl (pm 0 rfl (pr _)))))) ?_
  exact okX_end0 v6 Tryd.results117 rfl rfl

def regalloc_allocator_unspilled_l1 (K : Nat) (a0 : RegallocAllocator) (a1 : (List Int)) : Nat → (Int × (List Int)) → Option (List Int)
  | 0, _ => none
  | k + 1, s6 => (cnd (decide (s6.1 < ((a1).length : Int))) (Option.bind (Option.bind (idx a1 s6.1) (fun y14 => (Option.bind (idx a0.spilled y14) (fun y16 => (cnd (!y16) (Option.bind (app 8 s6.2 ([y14] : List Int)) (fun l19 => (some l19))) (some s6.2)))))) (fun s9 => (regalloc_allocator_unspilled_l1 K a0 a1 k ((w64 (s6.1 + 1)), s9)))) (some s6.2))

def regalloc_allocator_unspilled (K : Nat) (a0 : RegallocAllocator) (a1 : (List Int)) : Option (List Int) :=
  (Option.bind (regalloc_allocator_unspilled_l1 K a0 a1 K (0, ([] : List Int))) (fun s1 => (some s1)))

theorem c_regalloc_allocator_unspilled (K : Nat) (a0 : RegallocAllocator) (a1 : (List Int)) (g0 : Nat) (v0_4 : Value) (v0_5 : Value) (v0_6 : Value) (r : (List Int)) (h : regalloc_allocator_unspilled K a0 a1 = some r) : CallOk Tryd.prog glob 118 [(pAt g0 0), (tL 1 lI a1)] [Item.blk g0 135 [(tI a0.c.Params), (tI a0.c.Regs), (tL 5 Block.ty a0.c.Blocks), (tL 1 ls_SSI a0.at_), (Ty.own v0_4), (Ty.own v0_5), (Ty.own v0_6), (tI a0.a.Slots)], rowL v0_4 4 1 lB a0.spilled, rowL v0_5 72 2 Location.ty a0.a.Locations, rowL v0_6 76 5 Spill.ty a0.a.Spills] Unit (fun _ : Unit => ((tL 1 lI r), [Item.blk g0 135 [(tI a0.c.Params), (tI a0.c.Regs), (tL 5 Block.ty a0.c.Blocks), (tL 1 ls_SSI a0.at_), (Ty.own v0_4), (Ty.own v0_5), (Ty.own v0_6), (tI a0.a.Slots)], rowL v0_4 4 1 lB a0.spilled, rowL v0_5 72 2 Location.ty a0.a.Locations, rowL v0_6 76 5 Spill.ty a0.a.Spills])) := by
  refine call_of_code Tryd.func118 rfl Tryd.ntmps118 rfl (fun L w => ?_)
  change OkC _ _ _ [(0, (pAt g0 0)), (1, (tL 1 lI a1))] (Item.blk g0 135 [(tI a0.c.Params), (tI a0.c.Regs), (tL 5 Block.ty a0.c.Blocks), (tL 1 ls_SSI a0.at_), (Ty.own v0_4), (Ty.own v0_5), (Ty.own v0_6), (tI a0.a.Slots)] :: rowL v0_4 4 1 lB a0.spilled :: rowL v0_5 72 2 Location.ty a0.a.Locations :: rowL v0_6 76 5 Spill.ty a0.a.Spills :: L)
  unfold regalloc_allocator_unspilled at h
  refine okC_seq ?_
  refine okC_region ?_
  refine okL_step 4 (Ty.val (.slice none 0 0)) rfl rfl (does_assign rfl) ?_
  refine okL_nil ?_
  refine okX_next ?_
  refine okC_seq ?_
  refine okC_region ?_
  refine okL_step 5 (Ty.val (.slice none 0 0)) rfl rfl (does_assign rfl) ?_
  refine okL_nil ?_
  refine okX_next ?_
  refine okC_seq ?_
  refine okC_seq ?_
  refine okC_region ?_
  refine okL_step 8 (tL 1 lI a1) rfl rfl (does_move rfl) ?_
  refine okL_step 9 (tI ((a1).length : Int)) rfl rfl (does_len (sz := 1) (f := lI) (l := a1) rfl Tryd.underlying31 rfl) ?_
  refine okL_step 10 (tI 0) rfl rfl (does_move rfl) ?_
  refine okL_nil ?_
  refine okX_next ?_
  refine okC_nilrow (sz := 1) lI 3 5 rfl ?_
  obtain ⟨z3, h5, hz4⟩ := bs h
  refine okC_meetE (X := ((List Int) × Value)) (fun x => z3 = x.1) (fun x : ((List Int) × Value) => [(5, (Ty.own x.2))]) (fun x : ((List Int) × Value) => rowL x.2 3 1 lI x.1 :: Item.blk g0 135 [(tI a0.c.Params), (tI a0.c.Regs), (tL 5 Block.ty a0.c.Blocks), (tL 1 ls_SSI a0.at_), (Ty.own v0_4), (Ty.own v0_5), (Ty.own v0_6), (tI a0.a.Slots)] :: rowL v0_4 4 1 lB a0.spilled :: rowL v0_5 72 2 Location.ty a0.a.Locations :: rowL v0_6 76 5 Spill.ty a0.a.Spills :: L) ?_ ?_
  · refine okC_block ?_
    refine okC_loop (X := ((Int × (List Int)) × Value)) (fun k x => regalloc_allocator_unspilled_l1 K a0 a1 k x.1 = some z3) (fun x : ((Int × (List Int)) × Value) => [(0, (pAt g0 0)), (5, (Ty.own x.2)), (8, (tL 1 lI a1)), (9, (tI ((a1).length : Int))), (10, (tI x.1.1))]) (fun x : ((Int × (List Int)) × Value) => rowL x.2 3 1 lI x.1.2 :: Item.blk g0 135 [(tI a0.c.Params), (tI a0.c.Regs), (tL 5 Block.ty a0.c.Blocks), (tL 1 ls_SSI a0.at_), (Ty.own v0_4), (Ty.own v0_5), (Ty.own v0_6), (tI a0.a.Slots)] :: rowL v0_4 4 1 lB a0.spilled :: rowL v0_5 72 2 Location.ty a0.a.Locations :: rowL v0_6 76 5 Spill.ty a0.a.Spills :: L) K ((0, ([] : List Int)), (.slice none 0 0)) h5 (cc rfl (cc rfl (cc rfl (cc rfl (cc rfl cn))))) rfl (fun k x hI => ?_)
    obtain ⟨s6, w7⟩ := x
    change OkC _ _ _ [(0, (pAt g0 0)), (5, (Ty.own w7)), (8, (tL 1 lI a1)), (9, (tI ((a1).length : Int))), (10, (tI s6.1))] (rowL w7 3 1 lI s6.2 :: Item.blk g0 135 [(tI a0.c.Params), (tI a0.c.Regs), (tL 5 Block.ty a0.c.Blocks), (tL 1 ls_SSI a0.at_), (Ty.own v0_4), (Ty.own v0_5), (Ty.own v0_6), (tI a0.a.Slots)] :: rowL v0_4 4 1 lB a0.spilled :: rowL v0_5 72 2 Location.ty a0.a.Locations :: rowL v0_6 76 5 Spill.ty a0.a.Spills :: L)
    cases k with
    | zero => exact (nz hI).elim
    | succ k =>
      have h : regalloc_allocator_unspilled_l1 K a0 a1 (k + 1) s6 = some z3 := hI
      rw [regalloc_allocator_unspilled_l1.eq_2] at h
      refine okC_seq ?_
      refine okC_region ?_
      refine okL_step 11 (tB (decide (s6.1 < ((a1).length : Int)))) rfl rfl (does_lss rfl rfl) ?_
      refine okL_nil ?_
      refine okX_next ?_
      refine okC_seq ?_
      refine okC_cond (b := (decide (s6.1 < ((a1).length : Int)))) rfl (fun hb8 => ?_) (fun hb8 => ?_)
      · replace h := ct hb8 h
        refine okC_skip ?_
        refine okX_next ?_
        obtain ⟨z11, h13, hz12⟩ := bs h
        refine okC_meet (X := ((List Int) × Value)) (fun x => z11 = x.1) (fun x : ((List Int) × Value) => [(0, (pAt g0 0)), (5, (Ty.own x.2)), (8, (tL 1 lI a1)), (9, (tI ((a1).length : Int))), (10, (tI s6.1))]) (fun x : ((List Int) × Value) => rowL x.2 3 1 lI x.1 :: Item.blk g0 135 [(tI a0.c.Params), (tI a0.c.Regs), (tL 5 Block.ty a0.c.Blocks), (tL 1 ls_SSI a0.at_), (Ty.own v0_4), (Ty.own v0_5), (Ty.own v0_6), (tI a0.a.Slots)] :: rowL v0_4 4 1 lB a0.spilled :: rowL v0_5 72 2 Location.ty a0.a.Locations :: rowL v0_6 76 5 Spill.ty a0.a.Spills :: L) ?_ ?_
        · refine okC_block ?_
          refine okC_seq ?_
          refine okC_region ?_
          obtain ⟨y14, hi15, h13⟩ := bs h13
          refine okL_step 12 (Ty.ptr [(tI y14)]) rfl rfl (does_index (sz := 1) (f := lI) (l := a1) (n := s6.1) y14 Tryd.underlying31 Tryd.sizeOf3 hi15 rfl rfl) ?_
          refine okL_step 13 (tI y14) rfl rfl (does_load1 Tryd.isAgg3 rfl) ?_
          refine okL_step 7 (tI y14) rfl rfl (does_assign rfl) ?_
          refine okL_nil ?_
          refine okX_next ?_
          refine okC_seq ?_
          refine okC_region ?_
          refine okL_step 14 (pAt g0 0) rfl rfl (does_move rfl) ?_
          refine okL_step 15 (pAt g0 0) rfl rfl (does_nilCheck rfl) ?_
          refine okL_step 16 (pAt g0 4) rfl rfl (does_fieldAddrP 4 Tryd.underlying135 rfl Tryd.sizeOf79 rfl rfl) ?_
          refine okL_step 17 (Ty.own v0_4) rfl rfl (does_loadB1 Tryd.isAgg79 rfl 1 rfl rfl) ?_
          refine okL_step 18 (tI y14) rfl rfl (does_move rfl) ?_
          obtain ⟨y16, hi17, h13⟩ := bs h13
          refine okL_step 19 (Ty.rptr v0_4 (y14.toNat * 1)) rfl rfl (does_indexR (f := lB) (l := a0.spilled) (m := y14) el79 2 y16 hi17 rfl rfl rfl) ?_
          refine okL_step 20 (tB y16) rfl rfl (does_loadR1 (sz := 1) (f := lB) (l := a0.spilled) 2 y16 0 Tryd.isAgg4 hi17 rfl rfl rfl) ?_
          refine okL_step 21 (tB (!y16)) rfl rfl (does_not rfl) ?_
          refine okL_nil ?_
          refine okX_next ?_
          refine okC_cond (b := (!y16)) rfl (fun hb18 => ?_) (fun hb18 => ?_)
          · replace h13 := ct hb18 h13
            refine okC_region ?_
            refine okL_step 22 (Ty.own w7) rfl rfl (does_move rfl) ?_
            refine okL_step 23 (tI y14) rfl rfl (does_move rfl) ?_
            refine okL_step 24 (tL 1 lI ([y14] : List Int)) rfl rfl (does_buildSlice (f := lI) ([y14] : List Int) [(tI y14)] el31 rfl rfl rfl (fc [(tI y14)] 0 rfl (part_one (one_i _)) rfl rfl (fn_ rfl)) rfl (fun _ => rfl)) ?_
            obtain ⟨l19, ha20, h13⟩ := bs h13
            refine okL_stepO 25 rfl rfl (doesO_append (f := lI) (l := s6.2) (m := ([y14] : List Int)) el31 0 l19 (fun v21 => rowL v21 3 1 lI l19 :: Item.blk g0 135 [(tI a0.c.Params), (tI a0.c.Regs), (tL 5 Block.ty a0.c.Blocks), (tL 1 ls_SSI a0.at_), (Ty.own v0_4), (Ty.own v0_5), (Ty.own v0_6), (tI a0.a.Slots)] :: rowL v0_4 4 1 lB a0.spilled :: rowL v0_5 72 2 Location.ty a0.a.Locations :: rowL v0_6 76 5 Spill.ty a0.a.Spills :: L) ha20 rfl rfl rfl (fun _ => rfl) (fun v21 => ?_))
            refine okL_step 5 (Ty.own v21) rfl rfl (does_assign rfl) ?_
            refine okL_nil ?_
            refine okX_block_normal ?_
            exact okX_meet (I := _) (l19, v21) (smh h13) (cc rfl (cc rfl (cc rfl (cc rfl (cc rfl cn))))) rfl
          · replace h13 := cf hb18 h13
            refine okC_skip ?_
            refine okX_block_normal ?_
            exact okX_meet (I := _) (s6.2, w7) (smh h13) (cc rfl (cc rfl (cc rfl (cc rfl (cc rfl cn))))) rfl
        · intro x hx
          obtain ⟨s9, w10⟩ := x
          change OkC _ _ _ [(0, (pAt g0 0)), (5, (Ty.own w10)), (8, (tL 1 lI a1)), (9, (tI ((a1).length : Int))), (10, (tI s6.1))] (rowL w10 3 1 lI s9 :: Item.blk g0 135 [(tI a0.c.Params), (tI a0.c.Regs), (tL 5 Block.ty a0.c.Blocks), (tL 1 ls_SSI a0.at_), (Ty.own v0_4), (Ty.own v0_5), (Ty.own v0_6), (tI a0.a.Slots)] :: rowL v0_4 4 1 lB a0.spilled :: rowL v0_5 72 2 Location.ty a0.a.Locations :: rowL v0_6 76 5 Spill.ty a0.a.Spills :: L)
          obtain rfl : s9 = z11 := hx.symm
          replace h := hz12
          refine okC_region ?_
          refine okL_step 26 (tI (w64 (s6.1 + 1))) rfl rfl (does_add rfl rfl) ?_
          refine okL_step 10 (tI (w64 (s6.1 + 1))) rfl rfl (does_move rfl) ?_
          refine okL_nil ?_
          exact okX_again k (Nat.lt_succ_self k) (((w64 (s6.1 + 1)), s9), w10) h (cc rfl (cc rfl (cc rfl (cc rfl (cc rfl cn))))) rfl
      · replace h := cf hb8 h
        refine okC_exit ?_
        refine okX_then_exit ?_
        refine okX_again_exit ?_
        refine okX_block_hit ?_
        exact okX_meet (I := _) (s6.2, w7) (smh h) (cc rfl cn) rfl
  · intro x hx
    obtain ⟨s1, w2⟩ := x
    change OkX _ _ _ [(5, (Ty.own w2))] (rowL w2 3 1 lI s1 :: Item.blk g0 135 [(tI a0.c.Params), (tI a0.c.Regs), (tL 5 Block.ty a0.c.Blocks), (tL 1 ls_SSI a0.at_), (Ty.own v0_4), (Ty.own v0_5), (Ty.own v0_6), (tI a0.a.Slots)] :: rowL v0_4 4 1 lB a0.spilled :: rowL v0_5 72 2 Location.ty a0.a.Locations :: rowL v0_6 76 5 Spill.ty a0.a.Spills :: L)
    obtain rfl : s1 = z3 := hx.symm
    replace h := hz4
    refine okX_next ?_
    refine okC_seq ?_
    refine okC_region ?_
    refine okL_step 27 (Ty.own w2) rfl rfl (does_move rfl) ?_
    refine okL_step 4 (Ty.own w2) rfl rfl (does_assign rfl) ?_
    refine okL_nil ?_
    refine okX_next ?_
    refine okC_ret ?_
    obtain rfl := (smh h).symm
    refine okX_publish 0 [5, 27, 4] (Item.blk g0 135 [(tI a0.c.Params), (tI a0.c.Regs), (tL 5 Block.ty a0.c.Blocks), (tL 1 ls_SSI a0.at_), (Ty.own v0_4), (Ty.own v0_5), (Ty.own v0_6), (tI a0.a.Slots)] :: rowL v0_4 4 1 lB a0.spilled :: rowL v0_5 72 2 Location.ty a0.a.Locations :: rowL v0_6 76 5 Spill.ty a0.a.Spills :: L) rfl (ac rfl (ac rfl (ac rfl an))) rfl ?_
    exact okX_ret1 () Tryd.results118 rfl rfl

def regalloc_allocator_spillAcrossCalls_l3 (K : Nat) (s12 : (Int × (List Bool) × (List RegallocPoint))) (s23 : (Int × (List Bool) × (List RegallocPoint))) (l44 : (List Int)) (l44 : (List Int)) : Nat → (Int × (List Bool) × (List RegallocPoint)) → Option ((List Bool) × (List RegallocPoint))
  | 0, _ => none
  | k + 1, s52 => (cnd (decide (s52.1 < ((l44).length : Int))) (Option.bind (Option.bind (idx l44 s52.1) (fun y60 => (Option.bind (idx s52.2.1 y60) (fun y62 => (cnd (!y62) (Option.bind (idx s52.2.1 y60) (fun y65 => (Option.bind (idx s52.2.2 y60) (fun y67 => (some ((s52.2.1.set y60.toNat true), (s52.2.2.set y60.toNat (⟨s12.1, s23.1⟩ : RegallocPoint)))))))) (some (s52.2.1, s52.2.2))))))) (fun s55 => (regalloc_allocator_spillAcrossCalls_l3 K s12 s23 l44 l44 k ((w64 (s52.1 + 1)), s55.1, s55.2)))) (some (s52.2.1, s52.2.2)))

def regalloc_allocator_spillAcrossCalls_l2 (K : Nat) (a0 : RegallocAllocator) (s12 : (Int × (List Bool) × (List RegallocPoint))) (y15 : Block) : Nat → (Int × (List Bool) × (List RegallocPoint)) → Option ((List Bool) × (List RegallocPoint))
  | 0, _ => none
  | k + 1, s23 => (cnd (decide (s23.1 < ((y15.Instrs).length : Int))) (Option.bind (Option.bind (idx y15.Instrs s23.1) (fun y31 => (cnd (y31.Instr.Op != 6) (some (s23.2.1, s23.2.2)) (Option.bind (vcode_Reads K y31) (fun r35 => (Option.bind (idx a0.at_ s12.1) (fun y38 => (Option.bind (idx y38 (w64 (s23.1 + 1))) (fun y40 => (Option.bind (regalloc_without K y40 y31.Instr.A) (fun r42 => (Option.bind (app 8 r35 r42) (fun l44 => (Option.bind (regalloc_allocator_spillAcrossCalls_l3 K s12 s23 l44 l44 K (0, s23.2.1, s23.2.2)) (fun s47 => (some (s47.1, s47.2))))))))))))))))) (fun s26 => (regalloc_allocator_spillAcrossCalls_l2 K a0 s12 y15 k ((w64 (s23.1 + 1)), s26.1, s26.2)))) (some (s23.2.1, s23.2.2)))

def regalloc_allocator_spillAcrossCalls_l1 (K : Nat) (a0 : RegallocAllocator) : Nat → (Int × (List Bool) × (List RegallocPoint)) → Option ((List Bool) × (List RegallocPoint))
  | 0, _ => none
  | k + 1, s12 => (cnd (decide (s12.1 < ((a0.c.Blocks).length : Int))) (Option.bind (idx a0.c.Blocks s12.1) (fun y15 => (Option.bind (regalloc_allocator_spillAcrossCalls_l2 K a0 s12 y15 K (0, s12.2.1, s12.2.2)) (fun s18 => (regalloc_allocator_spillAcrossCalls_l1 K a0 k ((w64 (s12.1 + 1)), s18.1, s18.2)))))) (some (s12.2.1, s12.2.2)))

def regalloc_allocator_spillAcrossCalls_l4 (K : Nat) (s7 : ((List Bool) × (List RegallocPoint))) (r69 : (List Int)) : Nat → (Int × Int × Int × (List Block) × (List (List (List Int))) × Int × (List Bool) × (List Location) × (List Spill)) → Option (Int × Int × (List Block) × (List (List (List Int))) × Int × (List Bool) × (List Location) × (List Spill))
  | 0, _ => none
  | k + 1, s76 => (cnd (decide (s76.1 < ((r69).length : Int))) (Option.bind (idx r69 s76.1) (fun y79 => (Option.bind (idx s7.2 y79) (fun y81 => (Option.bind (idx s7.2 y79) (fun y83 => (Option.bind (regalloc_allocator_spill (⟨(⟨s76.2.1, s76.2.2.1, s76.2.2.2.1⟩ : VFunc), s76.2.2.2.2.1, s76.2.2.2.2.2.2.1, (⟨s76.2.2.2.2.2.2.2.1, s76.2.2.2.2.2.2.2.2, s76.2.2.2.2.2.1⟩ : Allocation)⟩ : RegallocAllocator) (⟨y79, 1, y81.block, y83.index, []⟩ : Spill)) (fun r85 => (regalloc_allocator_spillAcrossCalls_l4 K s7 r69 k ((w64 (s76.1 + 1)), r85.c.Params, r85.c.Regs, r85.c.Blocks, r85.at_, r85.a.Slots, r85.spilled, r85.a.Locations, r85.a.Spills)))))))))) (some (s76.2.1, s76.2.2.1, s76.2.2.2.1, s76.2.2.2.2.1, s76.2.2.2.2.2.1, s76.2.2.2.2.2.2.1, s76.2.2.2.2.2.2.2.1, s76.2.2.2.2.2.2.2.2)))

def regalloc_allocator_spillAcrossCalls (K : Nat) (a0 : RegallocAllocator) : Option RegallocAllocator :=
  (Option.bind (mk 16 a0.c.Regs (⟨0, 0⟩ : RegallocPoint)) (fun l1 => (Option.bind (mk 1 a0.c.Regs false) (fun l4 => (Option.bind (regalloc_allocator_spillAcrossCalls_l1 K a0 K (0, l4, l1)) (fun s7 => (Option.bind (liveness_AcrossCalls K a0.c) (fun r69 => (Option.bind (regalloc_allocator_spillAcrossCalls_l4 K s7 r69 K (0, a0.c.Params, a0.c.Regs, a0.c.Blocks, a0.at_, a0.a.Slots, a0.spilled, a0.a.Locations, a0.a.Spills)) (fun s71 => (some (⟨(⟨s71.1, s71.2.1, s71.2.2.1⟩ : VFunc), s71.2.2.2.1, s71.2.2.2.2.2.1, (⟨s71.2.2.2.2.2.2.1, s71.2.2.2.2.2.2.2, s71.2.2.2.2.1⟩ : Allocation)⟩ : RegallocAllocator))))))))))))

theorem c_regalloc_allocator_spillAcrossCalls (K : Nat) (a0 : RegallocAllocator) (g0 : Nat) (v0_4 : Value) (v0_5 : Value) (v0_6 : Value) (r : RegallocAllocator) (h : regalloc_allocator_spillAcrossCalls K a0 = some r) : CallOk Tryd.prog glob 92 [(pAt g0 0)] [Item.blk g0 135 [(tI a0.c.Params), (tI a0.c.Regs), (tL 5 Block.ty a0.c.Blocks), (tL 1 ls_SSI a0.at_), (Ty.own v0_4), (Ty.own v0_5), (Ty.own v0_6), (tI a0.a.Slots)], rowL v0_4 4 1 lB a0.spilled, rowL v0_5 72 2 Location.ty a0.a.Locations, rowL v0_6 76 5 Spill.ty a0.a.Spills] Value (fun x : Value => ((Ty.tup []), [Item.blk g0 135 [(tI r.c.Params), (tI r.c.Regs), (tL 5 Block.ty r.c.Blocks), (tL 1 ls_SSI r.at_), (Ty.own v0_4), (Ty.own v0_5), (Ty.own x), (tI r.a.Slots)], rowL v0_4 4 1 lB r.spilled, rowL v0_5 72 2 Location.ty r.a.Locations, rowL x 76 5 Spill.ty r.a.Spills])) := by
  refine call_of_code Tryd.func92 rfl Tryd.ntmps92 rfl (fun L w => ?_)
  change OkC _ _ _ [(0, (pAt g0 0))] (Item.blk g0 135 [(tI a0.c.Params), (tI a0.c.Regs), (tL 5 Block.ty a0.c.Blocks), (tL 1 ls_SSI a0.at_), (Ty.own v0_4), (Ty.own v0_5), (Ty.own v0_6), (tI a0.a.Slots)] :: rowL v0_4 4 1 lB a0.spilled :: rowL v0_5 72 2 Location.ty a0.a.Locations :: rowL v0_6 76 5 Spill.ty a0.a.Spills :: L)
  unfold regalloc_allocator_spillAcrossCalls at h
  refine okC_seq ?_
  refine okC_region ?_
  refine okL_step 12 (pAt g0 0) rfl rfl (does_move rfl) ?_
  refine okL_step 13 (pAt g0 0) rfl rfl (does_nilCheck rfl) ?_
  refine okL_step 14 (pAt g0 0) rfl rfl (does_fieldAddrP 0 Tryd.underlying135 rfl Tryd.sizeOf27 rfl rfl) ?_
  refine okL_step 15 (pAt g0 1) rfl rfl (does_fieldAddrP 1 Tryd.underlying27 rfl Tryd.sizeOf3 rfl rfl) ?_
  refine okL_step 16 (tI a0.c.Regs) rfl rfl (does_loadB1 Tryd.isAgg3 rfl 0 rfl rfl) ?_
  obtain ⟨l1, hm2, h⟩ := bs h
  refine okL_stepO 17 rfl rfl (doesO_make (f := RegallocPoint.ty) el152 (⟨0, 0⟩ : RegallocPoint) l1 hm2 rfl rfl (part_of (sub_agg [(.int .i64 0), (.int .i64 0)] rfl) (part_agg _)) (fun v3 => ?_))
  refine okL_step 2 (Ty.own v3) rfl rfl (does_assign rfl) ?_
  refine okL_nil ?_
  refine okX_next ?_
  refine okC_seq ?_
  refine okC_region ?_
  refine okL_step 18 (pAt g0 0) rfl rfl (does_move rfl) ?_
  refine okL_step 19 (pAt g0 0) rfl rfl (does_nilCheck rfl) ?_
  refine okL_step 20 (pAt g0 0) rfl rfl (does_fieldAddrP 0 Tryd.underlying135 rfl Tryd.sizeOf27 rfl rfl) ?_
  refine okL_step 21 (pAt g0 1) rfl rfl (does_fieldAddrP 1 Tryd.underlying27 rfl Tryd.sizeOf3 rfl rfl) ?_
  refine okL_step 22 (tI a0.c.Regs) rfl rfl (does_loadB1 Tryd.isAgg3 rfl 1 rfl rfl) ?_
  obtain ⟨l4, hm5, h⟩ := bs h
  refine okL_stepO 23 rfl rfl (doesO_make (f := lB) el79 false l4 hm5 rfl rfl (part_one (one_val rfl)) (fun v6 => ?_))
  refine okL_step 3 (Ty.own v6) rfl rfl (does_assign rfl) ?_
  refine okL_nil ?_
  refine okX_next ?_
  refine okC_seq ?_
  refine okC_seq ?_
  refine okC_region ?_
  refine okL_step 24 (pAt g0 0) rfl rfl (does_move rfl) ?_
  refine okL_step 25 (pAt g0 0) rfl rfl (does_nilCheck rfl) ?_
  refine okL_step 26 (pAt g0 0) rfl rfl (does_fieldAddrP 0 Tryd.underlying135 rfl Tryd.sizeOf27 rfl rfl) ?_
  refine okL_step 27 (pAt g0 2) rfl rfl (does_fieldAddrP 2 Tryd.underlying27 rfl Tryd.sizeOf25 rfl rfl) ?_
  refine okL_step 28 (tL 5 Block.ty a0.c.Blocks) rfl rfl (does_loadB1 Tryd.isAgg25 rfl 2 rfl rfl) ?_
  refine okL_step 29 (tI ((a0.c.Blocks).length : Int)) rfl rfl (does_len (sz := 5) (f := Block.ty) (l := a0.c.Blocks) rfl Tryd.underlying25 rfl) ?_
  refine okL_step 30 (tI 0) rfl rfl (does_move rfl) ?_
  refine okL_nil ?_
  refine okX_next ?_
  obtain ⟨z9, h11, hz10⟩ := bs h
  refine okC_meetE (X := ((List Bool) × (List RegallocPoint))) (fun x => z9 = x) (fun x : ((List Bool) × (List RegallocPoint)) => [(0, (pAt g0 0)), (2, (Ty.own v3))]) (fun x : ((List Bool) × (List RegallocPoint)) => rowL v6 4 1 lB x.1 :: rowL v3 154 2 RegallocPoint.ty x.2 :: Item.blk g0 135 [(tI a0.c.Params), (tI a0.c.Regs), (tL 5 Block.ty a0.c.Blocks), (tL 1 ls_SSI a0.at_), (Ty.own v0_4), (Ty.own v0_5), (Ty.own v0_6), (tI a0.a.Slots)] :: rowL v0_4 4 1 lB a0.spilled :: rowL v0_5 72 2 Location.ty a0.a.Locations :: rowL v0_6 76 5 Spill.ty a0.a.Spills :: L) ?_ ?_
  · refine okC_block ?_
    refine okC_loop (X := (Int × (List Bool) × (List RegallocPoint))) (fun k x => regalloc_allocator_spillAcrossCalls_l1 K a0 k x = some z9) (fun x : (Int × (List Bool) × (List RegallocPoint)) => [(0, (pAt g0 0)), (2, (Ty.own v3)), (3, (Ty.own v6)), (28, (tL 5 Block.ty a0.c.Blocks)), (29, (tI ((a0.c.Blocks).length : Int))), (30, (tI x.1))]) (fun x : (Int × (List Bool) × (List RegallocPoint)) => rowL v6 4 1 lB x.2.1 :: rowL v3 154 2 RegallocPoint.ty x.2.2 :: Item.blk g0 135 [(tI a0.c.Params), (tI a0.c.Regs), (tL 5 Block.ty a0.c.Blocks), (tL 1 ls_SSI a0.at_), (Ty.own v0_4), (Ty.own v0_5), (Ty.own v0_6), (tI a0.a.Slots)] :: rowL v0_4 4 1 lB a0.spilled :: rowL v0_5 72 2 Location.ty a0.a.Locations :: rowL v0_6 76 5 Spill.ty a0.a.Spills :: L) K (0, l4, l1) h11 (cc rfl (cc rfl (cc rfl (cc rfl (cc rfl (cc rfl cn)))))) rfl (fun k s12 hI => ?_)
    change OkC _ _ _ [(0, (pAt g0 0)), (2, (Ty.own v3)), (3, (Ty.own v6)), (28, (tL 5 Block.ty a0.c.Blocks)), (29, (tI ((a0.c.Blocks).length : Int))), (30, (tI s12.1))] (rowL v6 4 1 lB s12.2.1 :: rowL v3 154 2 RegallocPoint.ty s12.2.2 :: Item.blk g0 135 [(tI a0.c.Params), (tI a0.c.Regs), (tL 5 Block.ty a0.c.Blocks), (tL 1 ls_SSI a0.at_), (Ty.own v0_4), (Ty.own v0_5), (Ty.own v0_6), (tI a0.a.Slots)] :: rowL v0_4 4 1 lB a0.spilled :: rowL v0_5 72 2 Location.ty a0.a.Locations :: rowL v0_6 76 5 Spill.ty a0.a.Spills :: L)
    cases k with
    | zero => exact (nz hI).elim
    | succ k =>
      have h : regalloc_allocator_spillAcrossCalls_l1 K a0 (k + 1) s12 = some z9 := hI
      rw [regalloc_allocator_spillAcrossCalls_l1.eq_2] at h
      refine okC_seq ?_
      refine okC_region ?_
      refine okL_step 31 (tB (decide (s12.1 < ((a0.c.Blocks).length : Int)))) rfl rfl (does_lss rfl rfl) ?_
      refine okL_nil ?_
      refine okX_next ?_
      refine okC_seq ?_
      refine okC_cond (b := (decide (s12.1 < ((a0.c.Blocks).length : Int)))) rfl (fun hb14 => ?_) (fun hb14 => ?_)
      · replace h := ct hb14 h
        refine okC_skip ?_
        refine okX_next ?_
        refine okC_seq ?_
        refine okC_block ?_
        refine okC_seq ?_
        refine okC_region ?_
        refine okL_step 32 (tI s12.1) rfl rfl (does_move rfl) ?_
        obtain ⟨y15, hi16, h⟩ := bs h
        refine okL_step 33 (Ty.ptr [(tL 6 VInstr.ty y15.Instrs), (tI y15.End), (tI y15.Reg), (tI y15.Target), (tI y15.Else)]) rfl rfl (does_index (sz := 5) (f := Block.ty) (l := a0.c.Blocks) (n := s12.1) y15 Tryd.underlying25 Tryd.sizeOf43 hi16 rfl rfl) ?_
        refine okL_step 34 (Ty.agg [(tL 6 VInstr.ty y15.Instrs), (tI y15.End), (tI y15.Reg), (tI y15.Target), (tI y15.Else)]) rfl rfl (does_loadA [(tL 6 VInstr.ty y15.Instrs), (tI y15.End), (tI y15.Reg), (tI y15.Target), (tI y15.Else)] Tryd.isAgg43 Tryd.sizeOf43 rfl rfl rfl) ?_
        refine okL_stepO 5 rfl rfl (doesO_alloc [(Ty.val (.slice none 0 0)), (tI 0), (tI 0), (tI 0), (tI 0)] Tryd.zeroValue43 (part_of (sub_agg [(.slice none 0 0), (.int .i64 0), (.int .i64 0), (.int .i64 0), (.int .i64 0)] rfl) (part_agg _)) (fun g17 => ?_))
        refine okL_step 4 (tI s12.1) rfl rfl (does_assign rfl) ?_
        refine okL_stepU rfl (doesO_storeB (ps := [(tL 6 VInstr.ty y15.Instrs), (tI y15.End), (tI y15.Reg), (tI y15.Target), (tI y15.Else)]) 0 [(tL 6 VInstr.ty y15.Instrs), (tI y15.End), (tI y15.Reg), (tI y15.Target), (tI y15.Else)] (Item.blk g17 43 [(tL 6 VInstr.ty y15.Instrs), (tI y15.End), (tI y15.Reg), (tI y15.Target), (tI y15.Else)] :: rowL v6 4 1 lB s12.2.1 :: rowL v3 154 2 RegallocPoint.ty s12.2.2 :: Item.blk g0 135 [(tI a0.c.Params), (tI a0.c.Regs), (tL 5 Block.ty a0.c.Blocks), (tL 1 ls_SSI a0.at_), (Ty.own v0_4), (Ty.own v0_5), (Ty.own v0_6), (tI a0.a.Slots)] :: rowL v0_4 4 1 lB a0.spilled :: rowL v0_5 72 2 Location.ty a0.a.Locations :: rowL v0_6 76 5 Spill.ty a0.a.Spills :: L) rfl rfl (part_agg _) Tryd.sizeOf43 rfl rfl rfl rfl ?_)
        refine okL_nil ?_
        refine okX_next ?_
        refine okC_seq ?_
        refine okC_region ?_
        refine okL_step 35 (pAt g17 0) rfl rfl (does_fieldAddrP 0 Tryd.underlying43 rfl Tryd.sizeOf41 rfl rfl) ?_
        refine okL_step 36 (tL 6 VInstr.ty y15.Instrs) rfl rfl (does_loadB1 Tryd.isAgg41 rfl 0 rfl rfl) ?_
        refine okL_step 37 (tI ((y15.Instrs).length : Int)) rfl rfl (does_len (sz := 6) (f := VInstr.ty) (l := y15.Instrs) rfl Tryd.underlying41 rfl) ?_
        refine okL_step 38 (tI 0) rfl rfl (does_move rfl) ?_
        refine okL_nil ?_
        refine okX_next ?_
        obtain ⟨z20, h22, hz21⟩ := bs h
        refine okC_meetE (X := ((List Bool) × (List RegallocPoint))) (fun x => z20 = x) (fun x : ((List Bool) × (List RegallocPoint)) => [(0, (pAt g0 0)), (2, (Ty.own v3)), (3, (Ty.own v6)), (28, (tL 5 Block.ty a0.c.Blocks)), (29, (tI ((a0.c.Blocks).length : Int))), (30, (tI s12.1))]) (fun x : ((List Bool) × (List RegallocPoint)) => Item.blk g17 43 [(tL 6 VInstr.ty y15.Instrs), (tI y15.End), (tI y15.Reg), (tI y15.Target), (tI y15.Else)] :: rowL v6 4 1 lB x.1 :: rowL v3 154 2 RegallocPoint.ty x.2 :: Item.blk g0 135 [(tI a0.c.Params), (tI a0.c.Regs), (tL 5 Block.ty a0.c.Blocks), (tL 1 ls_SSI a0.at_), (Ty.own v0_4), (Ty.own v0_5), (Ty.own v0_6), (tI a0.a.Slots)] :: rowL v0_4 4 1 lB a0.spilled :: rowL v0_5 72 2 Location.ty a0.a.Locations :: rowL v0_6 76 5 Spill.ty a0.a.Spills :: L) ?_ ?_
        · refine okC_block ?_
          refine okC_loop (X := (Int × (List Bool) × (List RegallocPoint))) (fun k x => regalloc_allocator_spillAcrossCalls_l2 K a0 s12 y15 k x = some z20) (fun x : (Int × (List Bool) × (List RegallocPoint)) => [(0, (pAt g0 0)), (2, (Ty.own v3)), (3, (Ty.own v6)), (4, (tI s12.1)), (28, (tL 5 Block.ty a0.c.Blocks)), (29, (tI ((a0.c.Blocks).length : Int))), (30, (tI s12.1)), (36, (tL 6 VInstr.ty y15.Instrs)), (37, (tI ((y15.Instrs).length : Int))), (38, (tI x.1))]) (fun x : (Int × (List Bool) × (List RegallocPoint)) => Item.blk g17 43 [(tL 6 VInstr.ty y15.Instrs), (tI y15.End), (tI y15.Reg), (tI y15.Target), (tI y15.Else)] :: rowL v6 4 1 lB x.2.1 :: rowL v3 154 2 RegallocPoint.ty x.2.2 :: Item.blk g0 135 [(tI a0.c.Params), (tI a0.c.Regs), (tL 5 Block.ty a0.c.Blocks), (tL 1 ls_SSI a0.at_), (Ty.own v0_4), (Ty.own v0_5), (Ty.own v0_6), (tI a0.a.Slots)] :: rowL v0_4 4 1 lB a0.spilled :: rowL v0_5 72 2 Location.ty a0.a.Locations :: rowL v0_6 76 5 Spill.ty a0.a.Spills :: L) K (0, s12.2.1, s12.2.2) h22 (cc rfl (cc rfl (cc rfl (cc rfl (cc rfl (cc rfl (cc rfl (cc rfl (cc rfl (cc rfl cn)))))))))) rfl (fun k s23 hI => ?_)
          change OkC _ _ _ [(0, (pAt g0 0)), (2, (Ty.own v3)), (3, (Ty.own v6)), (4, (tI s12.1)), (28, (tL 5 Block.ty a0.c.Blocks)), (29, (tI ((a0.c.Blocks).length : Int))), (30, (tI s12.1)), (36, (tL 6 VInstr.ty y15.Instrs)), (37, (tI ((y15.Instrs).length : Int))), (38, (tI s23.1))] (Item.blk g17 43 [(tL 6 VInstr.ty y15.Instrs), (tI y15.End), (tI y15.Reg), (tI y15.Target), (tI y15.Else)] :: rowL v6 4 1 lB s23.2.1 :: rowL v3 154 2 RegallocPoint.ty s23.2.2 :: Item.blk g0 135 [(tI a0.c.Params), (tI a0.c.Regs), (tL 5 Block.ty a0.c.Blocks), (tL 1 ls_SSI a0.at_), (Ty.own v0_4), (Ty.own v0_5), (Ty.own v0_6), (tI a0.a.Slots)] :: rowL v0_4 4 1 lB a0.spilled :: rowL v0_5 72 2 Location.ty a0.a.Locations :: rowL v0_6 76 5 Spill.ty a0.a.Spills :: L)
          cases k with
          | zero => exact (nz hI).elim
          | succ k =>
            have h : regalloc_allocator_spillAcrossCalls_l2 K a0 s12 y15 (k + 1) s23 = some z20 := hI
            rw [regalloc_allocator_spillAcrossCalls_l2.eq_2] at h
            refine okC_seq ?_
            refine okC_region ?_
            refine okL_step 39 (tB (decide (s23.1 < ((y15.Instrs).length : Int)))) rfl rfl (does_lss rfl rfl) ?_
            refine okL_nil ?_
            refine okX_next ?_
            refine okC_seq ?_
            refine okC_cond (b := (decide (s23.1 < ((y15.Instrs).length : Int)))) rfl (fun hb25 => ?_) (fun hb25 => ?_)
            · replace h := ct hb25 h
              refine okC_skip ?_
              refine okX_next ?_
              obtain ⟨z28, h30, hz29⟩ := bs h
              refine okC_meet (X := ((List Bool) × (List RegallocPoint))) (fun x => z28 = x) (fun x : ((List Bool) × (List RegallocPoint)) => [(0, (pAt g0 0)), (2, (Ty.own v3)), (3, (Ty.own v6)), (4, (tI s12.1)), (28, (tL 5 Block.ty a0.c.Blocks)), (29, (tI ((a0.c.Blocks).length : Int))), (30, (tI s12.1)), (36, (tL 6 VInstr.ty y15.Instrs)), (37, (tI ((y15.Instrs).length : Int))), (38, (tI s23.1))]) (fun x : ((List Bool) × (List RegallocPoint)) => Item.blk g17 43 [(tL 6 VInstr.ty y15.Instrs), (tI y15.End), (tI y15.Reg), (tI y15.Target), (tI y15.Else)] :: rowL v6 4 1 lB x.1 :: rowL v3 154 2 RegallocPoint.ty x.2 :: Item.blk g0 135 [(tI a0.c.Params), (tI a0.c.Regs), (tL 5 Block.ty a0.c.Blocks), (tL 1 ls_SSI a0.at_), (Ty.own v0_4), (Ty.own v0_5), (Ty.own v0_6), (tI a0.a.Slots)] :: rowL v0_4 4 1 lB a0.spilled :: rowL v0_5 72 2 Location.ty a0.a.Locations :: rowL v0_6 76 5 Spill.ty a0.a.Spills :: L) ?_ ?_
              · refine okC_block ?_
                refine okC_seq ?_
                refine okC_region ?_
                refine okL_step 40 (tI s23.1) rfl rfl (does_move rfl) ?_
                obtain ⟨y31, hi32, h30⟩ := bs h30
                refine okL_step 41 (Ty.ptr [(tI y31.Instr.Op), (tI y31.Instr.A), (tI y31.Instr.B), (tI y31.Instr.C), (tI y31.Instr.N), (tL 1 lI y31.Args)]) rfl rfl (does_index (sz := 6) (f := VInstr.ty) (l := y15.Instrs) (n := s23.1) y31 Tryd.underlying41 Tryd.sizeOf48 hi32 rfl rfl) ?_
                refine okL_step 42 (Ty.agg [(tI y31.Instr.Op), (tI y31.Instr.A), (tI y31.Instr.B), (tI y31.Instr.C), (tI y31.Instr.N), (tL 1 lI y31.Args)]) rfl rfl (does_loadA [(tI y31.Instr.Op), (tI y31.Instr.A), (tI y31.Instr.B), (tI y31.Instr.C), (tI y31.Instr.N), (tL 1 lI y31.Args)] Tryd.isAgg48 Tryd.sizeOf48 rfl rfl rfl) ?_
                refine okL_stepO 7 rfl rfl (doesO_alloc [(tI 0), (tI 0), (tI 0), (tI 0), (tI 0), (Ty.val (.slice none 0 0))] Tryd.zeroValue48 (part_of (sub_agg [(.int .i64 0), (.int .i64 0), (.int .i64 0), (.int .i64 0), (.int .i64 0), (.slice none 0 0)] rfl) (part_agg _)) (fun g33 => ?_))
                refine okL_step 6 (tI s23.1) rfl rfl (does_assign rfl) ?_
                refine okL_stepU rfl (doesO_storeB (ps := [(tI y31.Instr.Op), (tI y31.Instr.A), (tI y31.Instr.B), (tI y31.Instr.C), (tI y31.Instr.N), (tL 1 lI y31.Args)]) 0 [(tI y31.Instr.Op), (tI y31.Instr.A), (tI y31.Instr.B), (tI y31.Instr.C), (tI y31.Instr.N), (tL 1 lI y31.Args)] (Item.blk g33 48 [(tI y31.Instr.Op), (tI y31.Instr.A), (tI y31.Instr.B), (tI y31.Instr.C), (tI y31.Instr.N), (tL 1 lI y31.Args)] :: Item.blk g17 43 [(tL 6 VInstr.ty y15.Instrs), (tI y15.End), (tI y15.Reg), (tI y15.Target), (tI y15.Else)] :: rowL v6 4 1 lB s23.2.1 :: rowL v3 154 2 RegallocPoint.ty s23.2.2 :: Item.blk g0 135 [(tI a0.c.Params), (tI a0.c.Regs), (tL 5 Block.ty a0.c.Blocks), (tL 1 ls_SSI a0.at_), (Ty.own v0_4), (Ty.own v0_5), (Ty.own v0_6), (tI a0.a.Slots)] :: rowL v0_4 4 1 lB a0.spilled :: rowL v0_5 72 2 Location.ty a0.a.Locations :: rowL v0_6 76 5 Spill.ty a0.a.Spills :: L) rfl rfl (part_agg _) Tryd.sizeOf48 rfl rfl rfl rfl ?_)
                refine okL_nil ?_
                refine okX_next ?_
                refine okC_seq ?_
                refine okC_seq ?_
                refine okC_region ?_
                refine okL_step 43 (pAt g33 0) rfl rfl (does_fieldAddrP 0 Tryd.underlying48 rfl Tryd.sizeOf46 rfl rfl) ?_
                refine okL_step 44 (pAt g33 0) rfl rfl (does_fieldAddrP 0 Tryd.underlying46 rfl Tryd.sizeOf3 rfl rfl) ?_
                refine okL_step 45 (tI y31.Instr.Op) rfl rfl (does_loadB1 Tryd.isAgg3 rfl 0 rfl rfl) ?_
                refine okL_step 46 (tB (y31.Instr.Op != 6)) rfl rfl (does_neq rfl rfl) ?_
                refine okL_nil ?_
                refine okX_next ?_
                refine okC_cond (b := (y31.Instr.Op != 6)) rfl (fun hb34 => ?_) (fun hb34 => ?_)
                · replace h30 := ct hb34 h30
                  refine okC_exit ?_
                  refine okX_then_exit ?_
                  refine okX_block_hit ?_
                  refine okX_items [Item.blk g33 48 [(tI y31.Instr.Op), (tI y31.Instr.A), (tI y31.Instr.B), (tI y31.Instr.C), (tI y31.Instr.N), (tL 1 lI y31.Args)]] (Item.blk g17 43 [(tL 6 VInstr.ty y15.Instrs), (tI y15.End), (tI y15.Reg), (tI y15.Target), (tI y15.Else)] :: rowL v6 4 1 lB s23.2.1 :: rowL v3 154 2 RegallocPoint.ty s23.2.2 :: Item.blk g0 135 [(tI a0.c.Params), (tI a0.c.Regs), (tL 5 Block.ty a0.c.Blocks), (tL 1 ls_SSI a0.at_), (Ty.own v0_4), (Ty.own v0_5), (Ty.own v0_6), (tI a0.a.Slots)] :: rowL v0_4 4 1 lB a0.spilled :: rowL v0_5 72 2 Location.ty a0.a.Locations :: rowL v0_6 76 5 Spill.ty a0.a.Spills :: L) (pm 0 rfl (pm 0 rfl (pm 0 rfl (pm 0 rfl (pm 0 rfl (pm 0 rfl (pm 0 rfl (pm 0 rfl (pr _))))))))) ?_
                  exact okX_meet (I := _) (s23.2.1, s23.2.2) (smh h30) (cc rfl (cc rfl (cc rfl (cc rfl (cc rfl (cc rfl (cc rfl (cc rfl (cc rfl (cc rfl cn)))))))))) rfl
                · replace h30 := cf hb34 h30
                  refine okC_skip ?_
                  refine okX_next ?_
                  refine okC_seq ?_
                  refine okC_cov [(0, (pAt g0 0)), (2, (Ty.own v3)), (3, (Ty.own v6)), (4, (tI s12.1)), (6, (tI s23.1)), (7, (pAt g33 0)), (28, (tL 5 Block.ty a0.c.Blocks)), (29, (tI ((a0.c.Blocks).length : Int))), (30, (tI s12.1)), (36, (tL 6 VInstr.ty y15.Instrs)), (37, (tI ((y15.Instrs).length : Int))), (38, (tI s23.1))] (cc rfl (cc rfl (cc rfl (cc rfl (cc rfl (cc rfl (cc rfl (cc rfl (cc rfl (cc rfl (cc rfl (cc rfl cn)))))))))))) ?_
                  obtain ⟨r35, hc36, h30⟩ := bs h30
                  obtain ⟨y38, hi39, h30⟩ := bs h30
                  obtain ⟨y40, hi41, h30⟩ := bs h30
                  obtain ⟨r42, hc43, h30⟩ := bs h30
                  obtain ⟨l44, ha45, h30⟩ := bs h30
                  refine okC_draw 20 [some (47, (Ty.agg [(tI y31.Instr.Op), (tI y31.Instr.A), (tI y31.Instr.B), (tI y31.Instr.C), (tI y31.Instr.N), (tL 1 lI y31.Args)])), none, some (49, (pAt g0 0)), some (50, (pAt g0 0)), some (51, (pAt g0 3)), some (52, (tL 1 ls_SSI a0.at_)), some (53, (tI s12.1)), some (54, (Ty.ptr [(tL 1 lIs y38)])), some (55, (tL 1 lIs y38)), some (56, (tI s23.1)), some (57, (tI (w64 (s23.1 + 1)))), some (58, (Ty.ptr [(tL 1 lI y40)])), some (59, (tL 1 lI y40)), some (60, (pAt g33 0)), some (61, (pAt g33 1)), some (62, (tI y31.Instr.A)), some (63, (tL 1 lI r42)), none, none, some (66, (tI 0))] ⟨Item.blk g33 48 [(tI y31.Instr.Op), (tI y31.Instr.A), (tI y31.Instr.B), (tI y31.Instr.C), (tI y31.Instr.N), (tL 1 lI y31.Args)] :: Item.blk g17 43 [(tL 6 VInstr.ty y15.Instrs), (tI y15.End), (tI y15.Reg), (tI y15.Target), (tI y15.Else)] :: rowL v6 4 1 lB s23.2.1 :: rowL v3 154 2 RegallocPoint.ty s23.2.2 :: Item.blk g0 135 [(tI a0.c.Params), (tI a0.c.Regs), (tL 5 Block.ty a0.c.Blocks), (tL 1 ls_SSI a0.at_), (Ty.own v0_4), (Ty.own v0_5), (Ty.own v0_6), (tI a0.a.Slots)] :: rowL v0_4 4 1 lB a0.spilled :: rowL v0_5 72 2 Location.ty a0.a.Locations :: rowL v0_6 76 5 Spill.ty a0.a.Spills :: ([] : List Item), Item.blk g33 48 [(tI y31.Instr.Op), (tI y31.Instr.A), (tI y31.Instr.B), (tI y31.Instr.C), (tI y31.Instr.N), (tL 1 lI y31.Args)] :: Item.blk g17 43 [(tL 6 VInstr.ty y15.Instrs), (tI y15.End), (tI y15.Reg), (tI y15.Target), (tI y15.Else)] :: rowL v6 4 1 lB s23.2.1 :: rowL v3 154 2 RegallocPoint.ty s23.2.2 :: Item.blk g0 135 [(tI a0.c.Params), (tI a0.c.Regs), (tL 5 Block.ty a0.c.Blocks), (tL 1 ls_SSI a0.at_), (Ty.own v0_4), (Ty.own v0_5), (Ty.own v0_6), (tI a0.a.Slots)] :: rowL v0_4 4 1 lB a0.spilled :: rowL v0_5 72 2 Location.ty a0.a.Locations :: rowL v0_6 76 5 Spill.ty a0.a.Spills :: ([] : List Item), []⟩ [1, 17, 18] mixed rfl rfl (by kernel_rfl) rfl (by kernel_rfl) rfl rfl rfl (fun _ h => List.Sublist.subset (.cons_cons _ (.cons_cons _ (.cons_cons _ (.cons_cons _ (.cons_cons _ (.cons_cons _ (.cons_cons _ (.cons_cons _ (List.nil_sublist _))))))))) h) (fun _ h => List.Sublist.subset (.cons_cons _ (.cons_cons _ (.cons_cons _ (.cons_cons _ (.cons_cons _ (.cons_cons _ (.cons_cons _ (.cons_cons _ (List.nil_sublist _))))))))) h) rfl (by kernel_rfl) (.inl rfl) (by kernel_rfl) (by kernel_rfl) (dc (draw_plain rfl (does_loadBA [(tI y31.Instr.Op), (tI y31.Instr.A), (tI y31.Instr.B), (tI y31.Instr.C), (tI y31.Instr.N), (tL 1 lI y31.Args)] Tryd.isAgg48 Tryd.sizeOf48 rfl 0 rfl rfl rfl)) (ds (dc (draw_plain rfl (does_move rfl)) (dc (draw_plain rfl (does_nilCheck rfl)) (dc (draw_plain rfl (does_fieldAddrP 3 Tryd.underlying135 rfl Tryd.sizeOf132 rfl rfl)) (dc (draw_plain rfl (does_loadB1 Tryd.isAgg132 rfl 4 rfl rfl)) (dc (draw_plain rfl (does_move rfl)) (dc (draw_plain rfl (does_index (sz := 1) (f := ls_SSI) (l := a0.at_) (n := s12.1) y38 Tryd.underlying132 Tryd.sizeOf22 hi39 rfl rfl)) (dc (draw_plain rfl (does_load1 Tryd.isAgg22 rfl)) (dc (draw_plain rfl (does_move rfl)) (dc (draw_plain rfl (does_add rfl rfl)) (dc (draw_plain rfl (does_index (sz := 1) (f := lIs) (l := y38) (n := (w64 (s23.1 + 1))) y40 Tryd.underlying22 Tryd.sizeOf31 hi41 rfl rfl)) (dc (draw_plain rfl (does_load1 Tryd.isAgg31 rfl)) (dc (draw_plain rfl (does_fieldAddrP 0 Tryd.underlying48 rfl Tryd.sizeOf46 rfl rfl)) (dc (draw_plain rfl (does_fieldAddrP 1 Tryd.underlying46 rfl Tryd.sizeOf3 rfl rfl)) (dc (draw_plain rfl (does_loadB1 Tryd.isAgg3 rfl 0 rfl rfl)) (dc (draw_plain rfl (does_call0 (c_regalloc_without K y40 y31.Instr.A r42 hc43) rfl Tryd.call116 rfl)) (ds (ds (dc (draw_plain rfl (does_move rfl)) (dn))))))))))))))))))))) ?_
                  refine ch_step [1] rfl (ap_cons (ch_at _ rfl rfl (doesO_call0 (Item.blk g33 48 [(tI y31.Instr.Op), (tI y31.Instr.A), (tI y31.Instr.B), (tI y31.Instr.C), (tI y31.Instr.N), (tL 1 lI y31.Args)] :: Item.blk g17 43 [(tL 6 VInstr.ty y15.Instrs), (tI y15.End), (tI y15.Reg), (tI y15.Target), (tI y15.Else)] :: rowL v6 4 1 lB s23.2.1 :: rowL v3 154 2 RegallocPoint.ty s23.2.2 :: Item.blk g0 135 [(tI a0.c.Params), (tI a0.c.Regs), (tL 5 Block.ty a0.c.Blocks), (tL 1 ls_SSI a0.at_), (Ty.own v0_4), (Ty.own v0_5), (Ty.own v0_6), (tI a0.a.Slots)] :: rowL v0_4 4 1 lB a0.spilled :: rowL v0_5 72 2 Location.ty a0.a.Locations :: rowL v0_6 76 5 Spill.ty a0.a.Spills :: L) (c_vcode_Reads K y31 r35 hc36) rfl Tryd.call95 rfl (pr _) (fun v37 => ?_))) (ap_nil))
                  refine ⟨⟨(fun _ h => List.Sublist.subset (.cons _ (.cons_cons _ (.cons_cons _ (.cons_cons _ (.cons_cons _ (.cons_cons _ (.cons_cons _ (.cons_cons _ (.cons_cons _ (List.nil_sublist _)))))))))) h), .inr (fun _ h => List.Sublist.subset (.cons _ (.cons_cons _ (.cons_cons _ (.cons_cons _ (.cons_cons _ (.cons_cons _ (.cons_cons _ (.cons_cons _ (.cons_cons _ (List.nil_sublist _)))))))))) h)⟩, ?_⟩
                  refine ch_step [17] rfl (ap_cons (ch_at _ rfl rfl (doesO_append (f := lI) (l := r35) (m := r42) el31 0 l44 (fun v46 => rowL v46 3 1 lI l44 :: Item.blk g33 48 [(tI y31.Instr.Op), (tI y31.Instr.A), (tI y31.Instr.B), (tI y31.Instr.C), (tI y31.Instr.N), (tL 1 lI y31.Args)] :: Item.blk g17 43 [(tL 6 VInstr.ty y15.Instrs), (tI y15.End), (tI y15.Reg), (tI y15.Target), (tI y15.Else)] :: rowL v6 4 1 lB s23.2.1 :: rowL v3 154 2 RegallocPoint.ty s23.2.2 :: Item.blk g0 135 [(tI a0.c.Params), (tI a0.c.Regs), (tL 5 Block.ty a0.c.Blocks), (tL 1 ls_SSI a0.at_), (Ty.own v0_4), (Ty.own v0_5), (Ty.own v0_6), (tI a0.a.Slots)] :: rowL v0_4 4 1 lB a0.spilled :: rowL v0_5 72 2 Location.ty a0.a.Locations :: rowL v0_6 76 5 Spill.ty a0.a.Spills :: L) ha45 rfl rfl rfl (fun _ => rfl) (fun v46 => ?_))) (ap_nil))
                  refine ⟨⟨(fun _ h => List.Sublist.subset (.cons _ (.cons_cons _ (.cons_cons _ (.cons_cons _ (.cons_cons _ (.cons_cons _ (.cons_cons _ (.cons_cons _ (.cons_cons _ (List.nil_sublist _)))))))))) h), .inr (fun _ h => List.Sublist.subset (.cons _ (.cons_cons _ (.cons_cons _ (.cons_cons _ (.cons_cons _ (.cons_cons _ (.cons_cons _ (.cons_cons _ (.cons_cons _ (List.nil_sublist _)))))))))) h)⟩, ?_⟩
                  refine ch_step [18] rfl (ap_cons (ch_at _ rfl rfl (doesO_of (does_lenR rfl Tryd.underlying31 0 rfl rfl) ?_)) (ap_nil))
                  refine ⟨⟨(fun _ h => List.Sublist.subset (.cons _ (.cons_cons _ (.cons_cons _ (.cons_cons _ (.cons_cons _ (.cons_cons _ (.cons_cons _ (.cons_cons _ (.cons_cons _ (List.nil_sublist _)))))))))) h), .inr (fun _ h => List.Sublist.subset (.cons _ (.cons_cons _ (.cons_cons _ (.cons_cons _ (.cons_cons _ (.cons_cons _ (.cons_cons _ (.cons_cons _ (.cons_cons _ (List.nil_sublist _)))))))))) h)⟩, ?_⟩
                  refine ch_end ?_
                  change OkL _ _ _ _ [(47, (Ty.agg [(tI y31.Instr.Op), (tI y31.Instr.A), (tI y31.Instr.B), (tI y31.Instr.C), (tI y31.Instr.N), (tL 1 lI y31.Args)])), (49, (pAt g0 0)), (50, (pAt g0 0)), (51, (pAt g0 3)), (52, (tL 1 ls_SSI a0.at_)), (53, (tI s12.1)), (54, (Ty.ptr [(tL 1 lIs y38)])), (55, (tL 1 lIs y38)), (56, (tI s23.1)), (57, (tI (w64 (s23.1 + 1)))), (58, (Ty.ptr [(tL 1 lI y40)])), (59, (tL 1 lI y40)), (60, (pAt g33 0)), (61, (pAt g33 1)), (62, (tI y31.Instr.A)), (63, (tL 1 lI r42)), (66, (tI 0)), (65, (tI ((l44).length : Int))), (64, (Ty.own v46)), (48, (Ty.own v37)), (0, (pAt g0 0)), (2, (Ty.own v3)), (3, (Ty.own v6)), (4, (tI s12.1)), (6, (tI s23.1)), (7, (pAt g33 0)), (28, (tL 5 Block.ty a0.c.Blocks)), (29, (tI ((a0.c.Blocks).length : Int))), (30, (tI s12.1)), (36, (tL 6 VInstr.ty y15.Instrs)), (37, (tI ((y15.Instrs).length : Int))), (38, (tI s23.1))] (rowL v46 3 1 lI l44 :: Item.blk g33 48 [(tI y31.Instr.Op), (tI y31.Instr.A), (tI y31.Instr.B), (tI y31.Instr.C), (tI y31.Instr.N), (tL 1 lI y31.Args)] :: Item.blk g17 43 [(tL 6 VInstr.ty y15.Instrs), (tI y15.End), (tI y15.Reg), (tI y15.Target), (tI y15.Else)] :: rowL v6 4 1 lB s23.2.1 :: rowL v3 154 2 RegallocPoint.ty s23.2.2 :: Item.blk g0 135 [(tI a0.c.Params), (tI a0.c.Regs), (tL 5 Block.ty a0.c.Blocks), (tL 1 ls_SSI a0.at_), (Ty.own v0_4), (Ty.own v0_5), (Ty.own v0_6), (tI a0.a.Slots)] :: rowL v0_4 4 1 lB a0.spilled :: rowL v0_5 72 2 Location.ty a0.a.Locations :: rowL v0_6 76 5 Spill.ty a0.a.Spills :: L)
                  refine okL_nil ?_
                  refine okX_next ?_
                  obtain ⟨z49, h51, hz50⟩ := bs h30
                  refine okC_meetE (X := ((List Bool) × (List RegallocPoint))) (fun x => z49 = x) (fun x : ((List Bool) × (List RegallocPoint)) => [(0, (pAt g0 0)), (2, (Ty.own v3)), (3, (Ty.own v6)), (4, (tI s12.1)), (28, (tL 5 Block.ty a0.c.Blocks)), (29, (tI ((a0.c.Blocks).length : Int))), (30, (tI s12.1)), (36, (tL 6 VInstr.ty y15.Instrs)), (37, (tI ((y15.Instrs).length : Int))), (38, (tI s23.1))]) (fun x : ((List Bool) × (List RegallocPoint)) => rowL v46 3 1 lI l44 :: Item.blk g33 48 [(tI y31.Instr.Op), (tI y31.Instr.A), (tI y31.Instr.B), (tI y31.Instr.C), (tI y31.Instr.N), (tL 1 lI y31.Args)] :: Item.blk g17 43 [(tL 6 VInstr.ty y15.Instrs), (tI y15.End), (tI y15.Reg), (tI y15.Target), (tI y15.Else)] :: rowL v6 4 1 lB x.1 :: rowL v3 154 2 RegallocPoint.ty x.2 :: Item.blk g0 135 [(tI a0.c.Params), (tI a0.c.Regs), (tL 5 Block.ty a0.c.Blocks), (tL 1 ls_SSI a0.at_), (Ty.own v0_4), (Ty.own v0_5), (Ty.own v0_6), (tI a0.a.Slots)] :: rowL v0_4 4 1 lB a0.spilled :: rowL v0_5 72 2 Location.ty a0.a.Locations :: rowL v0_6 76 5 Spill.ty a0.a.Spills :: L) ?_ ?_
                  · refine okC_block ?_
                    refine okC_loop (X := (Int × (List Bool) × (List RegallocPoint))) (fun k x => regalloc_allocator_spillAcrossCalls_l3 K s12 s23 l44 l44 k x = some z49) (fun x : (Int × (List Bool) × (List RegallocPoint)) => [(0, (pAt g0 0)), (2, (Ty.own v3)), (3, (Ty.own v6)), (4, (tI s12.1)), (6, (tI s23.1)), (28, (tL 5 Block.ty a0.c.Blocks)), (29, (tI ((a0.c.Blocks).length : Int))), (30, (tI s12.1)), (36, (tL 6 VInstr.ty y15.Instrs)), (37, (tI ((y15.Instrs).length : Int))), (38, (tI s23.1)), (64, (Ty.own v46)), (65, (tI ((l44).length : Int))), (66, (tI x.1))]) (fun x : (Int × (List Bool) × (List RegallocPoint)) => rowL v46 3 1 lI l44 :: Item.blk g33 48 [(tI y31.Instr.Op), (tI y31.Instr.A), (tI y31.Instr.B), (tI y31.Instr.C), (tI y31.Instr.N), (tL 1 lI y31.Args)] :: Item.blk g17 43 [(tL 6 VInstr.ty y15.Instrs), (tI y15.End), (tI y15.Reg), (tI y15.Target), (tI y15.Else)] :: rowL v6 4 1 lB x.2.1 :: rowL v3 154 2 RegallocPoint.ty x.2.2 :: Item.blk g0 135 [(tI a0.c.Params), (tI a0.c.Regs), (tL 5 Block.ty a0.c.Blocks), (tL 1 ls_SSI a0.at_), (Ty.own v0_4), (Ty.own v0_5), (Ty.own v0_6), (tI a0.a.Slots)] :: rowL v0_4 4 1 lB a0.spilled :: rowL v0_5 72 2 Location.ty a0.a.Locations :: rowL v0_6 76 5 Spill.ty a0.a.Spills :: L) K (0, s23.2.1, s23.2.2) h51 (cc rfl (cc rfl (cc rfl (cc rfl (cc rfl (cc rfl (cc rfl (cc rfl (cc rfl (cc rfl (cc rfl (cc rfl (cc rfl (cc rfl cn)))))))))))))) rfl (fun k s52 hI => ?_)
                    change OkC _ _ _ [(0, (pAt g0 0)), (2, (Ty.own v3)), (3, (Ty.own v6)), (4, (tI s12.1)), (6, (tI s23.1)), (28, (tL 5 Block.ty a0.c.Blocks)), (29, (tI ((a0.c.Blocks).length : Int))), (30, (tI s12.1)), (36, (tL 6 VInstr.ty y15.Instrs)), (37, (tI ((y15.Instrs).length : Int))), (38, (tI s23.1)), (64, (Ty.own v46)), (65, (tI ((l44).length : Int))), (66, (tI s52.1))] (rowL v46 3 1 lI l44 :: Item.blk g33 48 [(tI y31.Instr.Op), (tI y31.Instr.A), (tI y31.Instr.B), (tI y31.Instr.C), (tI y31.Instr.N), (tL 1 lI y31.Args)] :: Item.blk g17 43 [(tL 6 VInstr.ty y15.Instrs), (tI y15.End), (tI y15.Reg), (tI y15.Target), (tI y15.Else)] :: rowL v6 4 1 lB s52.2.1 :: rowL v3 154 2 RegallocPoint.ty s52.2.2 :: Item.blk g0 135 [(tI a0.c.Params), (tI a0.c.Regs), (tL 5 Block.ty a0.c.Blocks), (tL 1 ls_SSI a0.at_), (Ty.own v0_4), (Ty.own v0_5), (Ty.own v0_6), (tI a0.a.Slots)] :: rowL v0_4 4 1 lB a0.spilled :: rowL v0_5 72 2 Location.ty a0.a.Locations :: rowL v0_6 76 5 Spill.ty a0.a.Spills :: L)
                    cases k with
                    | zero => exact (nz hI).elim
                    | succ k =>
                      have h : regalloc_allocator_spillAcrossCalls_l3 K s12 s23 l44 l44 (k + 1) s52 = some z49 := hI
                      rw [regalloc_allocator_spillAcrossCalls_l3.eq_2] at h
                      refine okC_seq ?_
                      refine okC_region ?_
                      refine okL_step 67 (tB (decide (s52.1 < ((l44).length : Int)))) rfl rfl (does_lss rfl rfl) ?_
                      refine okL_nil ?_
                      refine okX_next ?_
                      refine okC_seq ?_
                      refine okC_cond (b := (decide (s52.1 < ((l44).length : Int)))) rfl (fun hb54 => ?_) (fun hb54 => ?_)
                      · replace h := ct hb54 h
                        refine okC_skip ?_
                        refine okX_next ?_
                        obtain ⟨z57, h59, hz58⟩ := bs h
                        refine okC_meet (X := ((List Bool) × (List RegallocPoint))) (fun x => z57 = x) (fun x : ((List Bool) × (List RegallocPoint)) => [(0, (pAt g0 0)), (2, (Ty.own v3)), (3, (Ty.own v6)), (4, (tI s12.1)), (6, (tI s23.1)), (28, (tL 5 Block.ty a0.c.Blocks)), (29, (tI ((a0.c.Blocks).length : Int))), (30, (tI s12.1)), (36, (tL 6 VInstr.ty y15.Instrs)), (37, (tI ((y15.Instrs).length : Int))), (38, (tI s23.1)), (64, (Ty.own v46)), (65, (tI ((l44).length : Int))), (66, (tI s52.1))]) (fun x : ((List Bool) × (List RegallocPoint)) => rowL v46 3 1 lI l44 :: Item.blk g33 48 [(tI y31.Instr.Op), (tI y31.Instr.A), (tI y31.Instr.B), (tI y31.Instr.C), (tI y31.Instr.N), (tL 1 lI y31.Args)] :: Item.blk g17 43 [(tL 6 VInstr.ty y15.Instrs), (tI y15.End), (tI y15.Reg), (tI y15.Target), (tI y15.Else)] :: rowL v6 4 1 lB x.1 :: rowL v3 154 2 RegallocPoint.ty x.2 :: Item.blk g0 135 [(tI a0.c.Params), (tI a0.c.Regs), (tL 5 Block.ty a0.c.Blocks), (tL 1 ls_SSI a0.at_), (Ty.own v0_4), (Ty.own v0_5), (Ty.own v0_6), (tI a0.a.Slots)] :: rowL v0_4 4 1 lB a0.spilled :: rowL v0_5 72 2 Location.ty a0.a.Locations :: rowL v0_6 76 5 Spill.ty a0.a.Spills :: L) ?_ ?_
                        · refine okC_block ?_
                          refine okC_seq ?_
                          refine okC_region ?_
                          obtain ⟨y60, hi61, h59⟩ := bs h59
                          refine okL_step 68 (Ty.rptr v46 (s52.1.toNat * 1)) rfl rfl (does_indexR (f := lI) (l := l44) (m := s52.1) el31 0 y60 hi61 rfl rfl rfl) ?_
                          refine okL_step 69 (tI y60) rfl rfl (does_loadR1 (sz := 1) (f := lI) (l := l44) 0 y60 0 Tryd.isAgg3 hi61 rfl rfl rfl) ?_
                          refine okL_step 9 (tI y60) rfl rfl (does_assign rfl) ?_
                          refine okL_nil ?_
                          refine okX_next ?_
                          refine okC_seq ?_
                          refine okC_region ?_
                          refine okL_step 70 (Ty.own v6) rfl rfl (does_move rfl) ?_
                          refine okL_step 71 (tI y60) rfl rfl (does_move rfl) ?_
                          obtain ⟨y62, hi63, h59⟩ := bs h59
                          refine okL_step 72 (Ty.rptr v6 (y60.toNat * 1)) rfl rfl (does_indexR (f := lB) (l := s52.2.1) (m := y60) el79 3 y62 hi63 rfl rfl rfl) ?_
                          refine okL_step 73 (tB y62) rfl rfl (does_loadR1 (sz := 1) (f := lB) (l := s52.2.1) 3 y62 0 Tryd.isAgg4 hi63 rfl rfl rfl) ?_
                          refine okL_step 74 (tB (!y62)) rfl rfl (does_not rfl) ?_
                          refine okL_nil ?_
                          refine okX_next ?_
                          refine okC_cond (b := (!y62)) rfl (fun hb64 => ?_) (fun hb64 => ?_)
                          · replace h59 := ct hb64 h59
                            refine okC_seq ?_
                            refine okC_region ?_
                            refine okL_step 75 (Ty.own v6) rfl rfl (does_move rfl) ?_
                            refine okL_step 76 (tI y60) rfl rfl (does_move rfl) ?_
                            obtain ⟨y65, hi66, h59⟩ := bs h59
                            refine okL_step 77 (Ty.rptr v6 (y60.toNat * 1)) rfl rfl (does_indexR (f := lB) (l := s52.2.1) (m := y60) el79 3 y65 hi66 rfl rfl rfl) ?_
                            refine okL_stepU rfl (doesO_storeR (f := lB) (l := s52.2.1) (sz := 1) (ps := [(tB true)]) (y0 := y65) (y1 := true) (m := y60) 3 0 (s52.2.1.set y60.toNat true) (rowL v46 3 1 lI l44 :: Item.blk g33 48 [(tI y31.Instr.Op), (tI y31.Instr.A), (tI y31.Instr.B), (tI y31.Instr.C), (tI y31.Instr.N), (tL 1 lI y31.Args)] :: Item.blk g17 43 [(tL 6 VInstr.ty y15.Instrs), (tI y15.End), (tI y15.Reg), (tI y15.Target), (tI y15.Else)] :: rowL v6 4 1 lB (s52.2.1.set y60.toNat true) :: rowL v3 154 2 RegallocPoint.ty s52.2.2 :: Item.blk g0 135 [(tI a0.c.Params), (tI a0.c.Regs), (tL 5 Block.ty a0.c.Blocks), (tL 1 ls_SSI a0.at_), (Ty.own v0_4), (Ty.own v0_5), (Ty.own v0_6), (tI a0.a.Slots)] :: rowL v0_4 4 1 lB a0.spilled :: rowL v0_5 72 2 Location.ty a0.a.Locations :: rowL v0_6 76 5 Spill.ty a0.a.Spills :: L) rfl rfl (part_one (one_b _)) Tryd.sizeOf4 rfl hi66 rfl rfl rfl rfl rfl ?_)
                            refine okL_nil ?_
                            refine okX_next ?_
                            refine okC_region ?_
                            refine okL_step 78 (Ty.own v3) rfl rfl (does_move rfl) ?_
                            refine okL_step 79 (tI y60) rfl rfl (does_move rfl) ?_
                            refine okL_step 80 (tI s12.1) rfl rfl (does_move rfl) ?_
                            refine okL_step 81 (tI s23.1) rfl rfl (does_move rfl) ?_
                            refine okL_step 82 (Ty.agg [(tI s12.1), (tI s23.1)]) rfl rfl (does_build [(tI s12.1), (tI s23.1)] Tryd.zeroValue154 Tryd.underlying154 (places154 _ Tryd.underlying154) rfl (fc [(tI s12.1)] 0 rfl (part_one (one_i _)) rfl rfl (fc [(tI s23.1)] 1 rfl (part_one (one_i _)) rfl rfl (fn_ rfl)))) ?_
                            obtain ⟨y67, hi68, h59⟩ := bs h59
                            refine okL_step 83 (Ty.rptr v3 (y60.toNat * 2)) rfl rfl (does_indexR (f := RegallocPoint.ty) (l := s52.2.2) (m := y60) el152 4 y67 hi68 rfl rfl rfl) ?_
                            refine okL_stepU rfl (doesO_storeR (f := RegallocPoint.ty) (l := s52.2.2) (sz := 2) (ps := [(tI s12.1), (tI s23.1)]) (y0 := y67) (y1 := (⟨s12.1, s23.1⟩ : RegallocPoint)) (m := y60) 4 0 (s52.2.2.set y60.toNat (⟨s12.1, s23.1⟩ : RegallocPoint)) (rowL v46 3 1 lI l44 :: Item.blk g33 48 [(tI y31.Instr.Op), (tI y31.Instr.A), (tI y31.Instr.B), (tI y31.Instr.C), (tI y31.Instr.N), (tL 1 lI y31.Args)] :: Item.blk g17 43 [(tL 6 VInstr.ty y15.Instrs), (tI y15.End), (tI y15.Reg), (tI y15.Target), (tI y15.Else)] :: rowL v6 4 1 lB (s52.2.1.set y60.toNat true) :: rowL v3 154 2 RegallocPoint.ty (s52.2.2.set y60.toNat (⟨s12.1, s23.1⟩ : RegallocPoint)) :: Item.blk g0 135 [(tI a0.c.Params), (tI a0.c.Regs), (tL 5 Block.ty a0.c.Blocks), (tL 1 ls_SSI a0.at_), (Ty.own v0_4), (Ty.own v0_5), (Ty.own v0_6), (tI a0.a.Slots)] :: rowL v0_4 4 1 lB a0.spilled :: rowL v0_5 72 2 Location.ty a0.a.Locations :: rowL v0_6 76 5 Spill.ty a0.a.Spills :: L) rfl rfl (part_agg _) Tryd.sizeOf154 rfl hi68 rfl rfl rfl rfl rfl ?_)
                            refine okL_nil ?_
                            refine okX_block_normal ?_
                            exact okX_meet (I := _) ((s52.2.1.set y60.toNat true), (s52.2.2.set y60.toNat (⟨s12.1, s23.1⟩ : RegallocPoint))) (smh h59) (cc rfl (cc rfl (cc rfl (cc rfl (cc rfl (cc rfl (cc rfl (cc rfl (cc rfl (cc rfl (cc rfl (cc rfl (cc rfl (cc rfl cn)))))))))))))) rfl
                          · replace h59 := cf hb64 h59
                            refine okC_skip ?_
                            refine okX_block_normal ?_
                            exact okX_meet (I := _) (s52.2.1, s52.2.2) (smh h59) (cc rfl (cc rfl (cc rfl (cc rfl (cc rfl (cc rfl (cc rfl (cc rfl (cc rfl (cc rfl (cc rfl (cc rfl (cc rfl (cc rfl cn)))))))))))))) rfl
                        · intro s55 hx
                          change OkC _ _ _ [(0, (pAt g0 0)), (2, (Ty.own v3)), (3, (Ty.own v6)), (4, (tI s12.1)), (6, (tI s23.1)), (28, (tL 5 Block.ty a0.c.Blocks)), (29, (tI ((a0.c.Blocks).length : Int))), (30, (tI s12.1)), (36, (tL 6 VInstr.ty y15.Instrs)), (37, (tI ((y15.Instrs).length : Int))), (38, (tI s23.1)), (64, (Ty.own v46)), (65, (tI ((l44).length : Int))), (66, (tI s52.1))] (rowL v46 3 1 lI l44 :: Item.blk g33 48 [(tI y31.Instr.Op), (tI y31.Instr.A), (tI y31.Instr.B), (tI y31.Instr.C), (tI y31.Instr.N), (tL 1 lI y31.Args)] :: Item.blk g17 43 [(tL 6 VInstr.ty y15.Instrs), (tI y15.End), (tI y15.Reg), (tI y15.Target), (tI y15.Else)] :: rowL v6 4 1 lB s55.1 :: rowL v3 154 2 RegallocPoint.ty s55.2 :: Item.blk g0 135 [(tI a0.c.Params), (tI a0.c.Regs), (tL 5 Block.ty a0.c.Blocks), (tL 1 ls_SSI a0.at_), (Ty.own v0_4), (Ty.own v0_5), (Ty.own v0_6), (tI a0.a.Slots)] :: rowL v0_4 4 1 lB a0.spilled :: rowL v0_5 72 2 Location.ty a0.a.Locations :: rowL v0_6 76 5 Spill.ty a0.a.Spills :: L)
                          obtain rfl : s55 = z57 := hx.symm
                          replace h := hz58
                          refine okC_region ?_
                          refine okL_step 84 (tI (w64 (s52.1 + 1))) rfl rfl (does_add rfl rfl) ?_
                          refine okL_step 66 (tI (w64 (s52.1 + 1))) rfl rfl (does_move rfl) ?_
                          refine okL_nil ?_
                          exact okX_again k (Nat.lt_succ_self k) ((w64 (s52.1 + 1)), s55.1, s55.2) h (cc rfl (cc rfl (cc rfl (cc rfl (cc rfl (cc rfl (cc rfl (cc rfl (cc rfl (cc rfl (cc rfl (cc rfl (cc rfl (cc rfl cn)))))))))))))) rfl
                      · replace h := cf hb54 h
                        refine okC_exit ?_
                        refine okX_then_exit ?_
                        refine okX_again_exit ?_
                        refine okX_block_hit ?_
                        exact okX_meet (I := _) (s52.2.1, s52.2.2) (smh h) (cc rfl (cc rfl (cc rfl (cc rfl (cc rfl (cc rfl (cc rfl (cc rfl (cc rfl (cc rfl cn)))))))))) rfl
                  · intro s47 hx
                    change OkX _ _ _ [(0, (pAt g0 0)), (2, (Ty.own v3)), (3, (Ty.own v6)), (4, (tI s12.1)), (28, (tL 5 Block.ty a0.c.Blocks)), (29, (tI ((a0.c.Blocks).length : Int))), (30, (tI s12.1)), (36, (tL 6 VInstr.ty y15.Instrs)), (37, (tI ((y15.Instrs).length : Int))), (38, (tI s23.1))] (rowL v46 3 1 lI l44 :: Item.blk g33 48 [(tI y31.Instr.Op), (tI y31.Instr.A), (tI y31.Instr.B), (tI y31.Instr.C), (tI y31.Instr.N), (tL 1 lI y31.Args)] :: Item.blk g17 43 [(tL 6 VInstr.ty y15.Instrs), (tI y15.End), (tI y15.Reg), (tI y15.Target), (tI y15.Else)] :: rowL v6 4 1 lB s47.1 :: rowL v3 154 2 RegallocPoint.ty s47.2 :: Item.blk g0 135 [(tI a0.c.Params), (tI a0.c.Regs), (tL 5 Block.ty a0.c.Blocks), (tL 1 ls_SSI a0.at_), (Ty.own v0_4), (Ty.own v0_5), (Ty.own v0_6), (tI a0.a.Slots)] :: rowL v0_4 4 1 lB a0.spilled :: rowL v0_5 72 2 Location.ty a0.a.Locations :: rowL v0_6 76 5 Spill.ty a0.a.Spills :: L)
                    obtain rfl : s47 = z49 := hx.symm
                    replace h30 := hz50
                    refine okX_block_normal ?_
                    refine okX_items [rowL v46 3 1 lI l44, Item.blk g33 48 [(tI y31.Instr.Op), (tI y31.Instr.A), (tI y31.Instr.B), (tI y31.Instr.C), (tI y31.Instr.N), (tL 1 lI y31.Args)]] (Item.blk g17 43 [(tL 6 VInstr.ty y15.Instrs), (tI y15.End), (tI y15.Reg), (tI y15.Target), (tI y15.Else)] :: rowL v6 4 1 lB s47.1 :: rowL v3 154 2 RegallocPoint.ty s47.2 :: Item.blk g0 135 [(tI a0.c.Params), (tI a0.c.Regs), (tL 5 Block.ty a0.c.Blocks), (tL 1 ls_SSI a0.at_), (Ty.own v0_4), (Ty.own v0_5), (Ty.own v0_6), (tI a0.a.Slots)] :: rowL v0_4 4 1 lB a0.spilled :: rowL v0_5 72 2 Location.ty a0.a.Locations :: rowL v0_6 76 5 Spill.ty a0.a.Spills :: L) (pm 0 rfl (pm 0 rfl (pm 0 rfl (pm 0 rfl (pm 0 rfl (pm 0 rfl (pm 0 rfl (pm 0 rfl (pm 0 rfl (pr _)))))))))) ?_
                    exact okX_meet (I := _) (s47.1, s47.2) (smh h30) (cc rfl (cc rfl (cc rfl (cc rfl (cc rfl (cc rfl (cc rfl (cc rfl (cc rfl (cc rfl cn)))))))))) rfl
              · intro s26 hx
                change OkC _ _ _ [(0, (pAt g0 0)), (2, (Ty.own v3)), (3, (Ty.own v6)), (4, (tI s12.1)), (28, (tL 5 Block.ty a0.c.Blocks)), (29, (tI ((a0.c.Blocks).length : Int))), (30, (tI s12.1)), (36, (tL 6 VInstr.ty y15.Instrs)), (37, (tI ((y15.Instrs).length : Int))), (38, (tI s23.1))] (Item.blk g17 43 [(tL 6 VInstr.ty y15.Instrs), (tI y15.End), (tI y15.Reg), (tI y15.Target), (tI y15.Else)] :: rowL v6 4 1 lB s26.1 :: rowL v3 154 2 RegallocPoint.ty s26.2 :: Item.blk g0 135 [(tI a0.c.Params), (tI a0.c.Regs), (tL 5 Block.ty a0.c.Blocks), (tL 1 ls_SSI a0.at_), (Ty.own v0_4), (Ty.own v0_5), (Ty.own v0_6), (tI a0.a.Slots)] :: rowL v0_4 4 1 lB a0.spilled :: rowL v0_5 72 2 Location.ty a0.a.Locations :: rowL v0_6 76 5 Spill.ty a0.a.Spills :: L)
                obtain rfl : s26 = z28 := hx.symm
                replace h := hz29
                refine okC_region ?_
                refine okL_step 85 (tI (w64 (s23.1 + 1))) rfl rfl (does_add rfl rfl) ?_
                refine okL_step 38 (tI (w64 (s23.1 + 1))) rfl rfl (does_move rfl) ?_
                refine okL_nil ?_
                exact okX_again k (Nat.lt_succ_self k) ((w64 (s23.1 + 1)), s26.1, s26.2) h (cc rfl (cc rfl (cc rfl (cc rfl (cc rfl (cc rfl (cc rfl (cc rfl (cc rfl (cc rfl cn)))))))))) rfl
            · replace h := cf hb25 h
              refine okC_exit ?_
              refine okX_then_exit ?_
              refine okX_again_exit ?_
              refine okX_block_hit ?_
              exact okX_meet (I := _) (s23.2.1, s23.2.2) (smh h) (cc rfl (cc rfl (cc rfl (cc rfl (cc rfl (cc rfl cn)))))) rfl
        · intro s18 hx
          change OkX _ _ _ [(0, (pAt g0 0)), (2, (Ty.own v3)), (3, (Ty.own v6)), (28, (tL 5 Block.ty a0.c.Blocks)), (29, (tI ((a0.c.Blocks).length : Int))), (30, (tI s12.1))] (Item.blk g17 43 [(tL 6 VInstr.ty y15.Instrs), (tI y15.End), (tI y15.Reg), (tI y15.Target), (tI y15.Else)] :: rowL v6 4 1 lB s18.1 :: rowL v3 154 2 RegallocPoint.ty s18.2 :: Item.blk g0 135 [(tI a0.c.Params), (tI a0.c.Regs), (tL 5 Block.ty a0.c.Blocks), (tL 1 ls_SSI a0.at_), (Ty.own v0_4), (Ty.own v0_5), (Ty.own v0_6), (tI a0.a.Slots)] :: rowL v0_4 4 1 lB a0.spilled :: rowL v0_5 72 2 Location.ty a0.a.Locations :: rowL v0_6 76 5 Spill.ty a0.a.Spills :: L)
          obtain rfl : s18 = z20 := hx.symm
          replace h := hz21
          refine okX_block_normal ?_
          refine okX_next ?_
          refine okC_region ?_
          refine okL_step 86 (tI (w64 (s12.1 + 1))) rfl rfl (does_add rfl rfl) ?_
          refine okL_step 30 (tI (w64 (s12.1 + 1))) rfl rfl (does_move rfl) ?_
          refine okL_nil ?_
          refine okX_items [Item.blk g17 43 [(tL 6 VInstr.ty y15.Instrs), (tI y15.End), (tI y15.Reg), (tI y15.Target), (tI y15.Else)]] (rowL v6 4 1 lB s18.1 :: rowL v3 154 2 RegallocPoint.ty s18.2 :: Item.blk g0 135 [(tI a0.c.Params), (tI a0.c.Regs), (tL 5 Block.ty a0.c.Blocks), (tL 1 ls_SSI a0.at_), (Ty.own v0_4), (Ty.own v0_5), (Ty.own v0_6), (tI a0.a.Slots)] :: rowL v0_4 4 1 lB a0.spilled :: rowL v0_5 72 2 Location.ty a0.a.Locations :: rowL v0_6 76 5 Spill.ty a0.a.Spills :: L) (pm 0 rfl (pm 0 rfl (pm 0 rfl (pm 0 rfl (pm 0 rfl (pm 0 rfl (pm 0 rfl (pr _)))))))) ?_
          exact okX_again k (Nat.lt_succ_self k) ((w64 (s12.1 + 1)), s18.1, s18.2) h (cc rfl (cc rfl (cc rfl (cc rfl (cc rfl (cc rfl cn)))))) rfl
      · replace h := cf hb14 h
        refine okC_exit ?_
        refine okX_then_exit ?_
        refine okX_again_exit ?_
        refine okX_block_hit ?_
        exact okX_meet (I := _) (s12.2.1, s12.2.2) (smh h) (cc rfl (cc rfl cn)) rfl
  · intro s7 hx
    change OkX _ _ _ [(0, (pAt g0 0)), (2, (Ty.own v3))] (rowL v6 4 1 lB s7.1 :: rowL v3 154 2 RegallocPoint.ty s7.2 :: Item.blk g0 135 [(tI a0.c.Params), (tI a0.c.Regs), (tL 5 Block.ty a0.c.Blocks), (tL 1 ls_SSI a0.at_), (Ty.own v0_4), (Ty.own v0_5), (Ty.own v0_6), (tI a0.a.Slots)] :: rowL v0_4 4 1 lB a0.spilled :: rowL v0_5 72 2 Location.ty a0.a.Locations :: rowL v0_6 76 5 Spill.ty a0.a.Spills :: L)
    obtain rfl : s7 = z9 := hx.symm
    replace h := hz10
    refine okX_next ?_
    refine okC_seq ?_
    refine okC_region ?_
    refine okL_step 87 (pAt g0 0) rfl rfl (does_move rfl) ?_
    refine okL_step 88 (pAt g0 0) rfl rfl (does_nilCheck rfl) ?_
    refine okL_step 89 (pAt g0 0) rfl rfl (does_fieldAddrP 0 Tryd.underlying135 rfl Tryd.sizeOf27 rfl rfl) ?_
    refine okL_step 90 (Ty.agg [(tI a0.c.Params), (tI a0.c.Regs), (tL 5 Block.ty a0.c.Blocks)]) rfl rfl (does_loadBA [(tI a0.c.Params), (tI a0.c.Regs), (tL 5 Block.ty a0.c.Blocks)] Tryd.isAgg27 Tryd.sizeOf27 rfl 2 rfl rfl rfl) ?_
    obtain ⟨r69, hc70, h⟩ := bs h
    refine okL_step 91 (tL 1 lI r69) rfl rfl (does_call0 (c_liveness_AcrossCalls K a0.c r69 hc70) rfl Tryd.call27 rfl) ?_
    refine okL_step 92 (tI ((r69).length : Int)) rfl rfl (does_len (sz := 1) (f := lI) (l := r69) rfl Tryd.underlying31 rfl) ?_
    refine okL_step 93 (tI 0) rfl rfl (does_move rfl) ?_
    refine okL_nil ?_
    refine okX_next ?_
    obtain ⟨z73, h75, hz74⟩ := bs h
    refine okC_meetE (X := ((Int × Int × (List Block) × (List (List (List Int))) × Int × (List Bool) × (List Location) × (List Spill)) × Value)) (fun x => z73 = x.1) (fun x : ((Int × Int × (List Block) × (List (List (List Int))) × Int × (List Bool) × (List Location) × (List Spill)) × Value) => []) (fun x : ((Int × Int × (List Block) × (List (List (List Int))) × Int × (List Bool) × (List Location) × (List Spill)) × Value) => rowL v6 4 1 lB s7.1 :: rowL v3 154 2 RegallocPoint.ty s7.2 :: Item.blk g0 135 [(tI x.1.1), (tI x.1.2.1), (tL 5 Block.ty x.1.2.2.1), (tL 1 ls_SSI x.1.2.2.2.1), (Ty.own v0_4), (Ty.own v0_5), (Ty.own x.2), (tI x.1.2.2.2.2.1)] :: rowL v0_4 4 1 lB x.1.2.2.2.2.2.1 :: rowL v0_5 72 2 Location.ty x.1.2.2.2.2.2.2.1 :: rowL x.2 76 5 Spill.ty x.1.2.2.2.2.2.2.2 :: L) ?_ ?_
    · refine okC_block ?_
      refine okC_loop (X := ((Int × Int × Int × (List Block) × (List (List (List Int))) × Int × (List Bool) × (List Location) × (List Spill)) × Value)) (fun k x => regalloc_allocator_spillAcrossCalls_l4 K s7 r69 k x.1 = some z73) (fun x : ((Int × Int × Int × (List Block) × (List (List (List Int))) × Int × (List Bool) × (List Location) × (List Spill)) × Value) => [(0, (pAt g0 0)), (2, (Ty.own v3)), (91, (tL 1 lI r69)), (92, (tI ((r69).length : Int))), (93, (tI x.1.1))]) (fun x : ((Int × Int × Int × (List Block) × (List (List (List Int))) × Int × (List Bool) × (List Location) × (List Spill)) × Value) => rowL v6 4 1 lB s7.1 :: rowL v3 154 2 RegallocPoint.ty s7.2 :: Item.blk g0 135 [(tI x.1.2.1), (tI x.1.2.2.1), (tL 5 Block.ty x.1.2.2.2.1), (tL 1 ls_SSI x.1.2.2.2.2.1), (Ty.own v0_4), (Ty.own v0_5), (Ty.own x.2), (tI x.1.2.2.2.2.2.1)] :: rowL v0_4 4 1 lB x.1.2.2.2.2.2.2.1 :: rowL v0_5 72 2 Location.ty x.1.2.2.2.2.2.2.2.1 :: rowL x.2 76 5 Spill.ty x.1.2.2.2.2.2.2.2.2 :: L) K ((0, a0.c.Params, a0.c.Regs, a0.c.Blocks, a0.at_, a0.a.Slots, a0.spilled, a0.a.Locations, a0.a.Spills), v0_6) h75 (cc rfl (cc rfl (cc rfl (cc rfl (cc rfl cn))))) rfl (fun k x hI => ?_)
      obtain ⟨s76, w77⟩ := x
      change OkC _ _ _ [(0, (pAt g0 0)), (2, (Ty.own v3)), (91, (tL 1 lI r69)), (92, (tI ((r69).length : Int))), (93, (tI s76.1))] (rowL v6 4 1 lB s7.1 :: rowL v3 154 2 RegallocPoint.ty s7.2 :: Item.blk g0 135 [(tI s76.2.1), (tI s76.2.2.1), (tL 5 Block.ty s76.2.2.2.1), (tL 1 ls_SSI s76.2.2.2.2.1), (Ty.own v0_4), (Ty.own v0_5), (Ty.own w77), (tI s76.2.2.2.2.2.1)] :: rowL v0_4 4 1 lB s76.2.2.2.2.2.2.1 :: rowL v0_5 72 2 Location.ty s76.2.2.2.2.2.2.2.1 :: rowL w77 76 5 Spill.ty s76.2.2.2.2.2.2.2.2 :: L)
      cases k with
      | zero => exact (nz hI).elim
      | succ k =>
        have h : regalloc_allocator_spillAcrossCalls_l4 K s7 r69 (k + 1) s76 = some z73 := hI
        rw [regalloc_allocator_spillAcrossCalls_l4.eq_2] at h
        refine okC_seq ?_
        refine okC_region ?_
        refine okL_step 94 (tB (decide (s76.1 < ((r69).length : Int)))) rfl rfl (does_lss rfl rfl) ?_
        refine okL_nil ?_
        refine okX_next ?_
        refine okC_seq ?_
        refine okC_cond (b := (decide (s76.1 < ((r69).length : Int)))) rfl (fun hb78 => ?_) (fun hb78 => ?_)
        · replace h := ct hb78 h
          refine okC_skip ?_
          refine okX_next ?_
          refine okC_seq ?_
          refine okC_block ?_
          refine okC_seq ?_
          refine okC_region ?_
          obtain ⟨y79, hi80, h⟩ := bs h
          refine okL_step 95 (Ty.ptr [(tI y79)]) rfl rfl (does_index (sz := 1) (f := lI) (l := r69) (n := s76.1) y79 Tryd.underlying31 Tryd.sizeOf3 hi80 rfl rfl) ?_
          refine okL_step 96 (tI y79) rfl rfl (does_load1 Tryd.isAgg3 rfl) ?_
          refine okL_step 11 (tI y79) rfl rfl (does_assign rfl) ?_
          refine okL_nil ?_
          refine okX_next ?_
          refine okC_cov [(0, (pAt g0 0)), (2, (Ty.own v3)), (11, (tI y79)), (91, (tL 1 lI r69)), (92, (tI ((r69).length : Int))), (93, (tI s76.1))] (cc rfl (cc rfl (cc rfl (cc rfl (cc rfl (cc rfl cn)))))) ?_
          obtain ⟨y81, hi82, h⟩ := bs h
          obtain ⟨y83, hi84, h⟩ := bs h
          refine okC_draw 13 [some (97, (pAt g0 0)), some (98, (tI y79)), some (99, (Ty.own v3)), some (100, (tI y79)), some (101, (Ty.rptr v3 (y79.toNat * 2))), some (102, (Ty.rptr v3 (y79.toNat * 2))), some (103, (tI y81.block)), some (104, (Ty.own v3)), some (105, (tI y79)), some (106, (Ty.rptr v3 (y79.toNat * 2))), some (107, (Ty.rptr v3 (y79.toNat * 2 + 1))), some (108, (tI y83.index)), some (109, (Ty.agg [(tI y79), (tI 1), (tI y81.block), (tI y83.index), (Ty.val (.slice none 0 0))]))] ⟨rowL v6 4 1 lB s7.1 :: rowL v3 154 2 RegallocPoint.ty s7.2 :: Item.blk g0 135 [(tI s76.2.1), (tI s76.2.2.1), (tL 5 Block.ty s76.2.2.2.1), (tL 1 ls_SSI s76.2.2.2.2.1), (Ty.own v0_4), (Ty.own v0_5), (Ty.own w77), (tI s76.2.2.2.2.2.1)] :: rowL v0_4 4 1 lB s76.2.2.2.2.2.2.1 :: rowL v0_5 72 2 Location.ty s76.2.2.2.2.2.2.2.1 :: rowL w77 76 5 Spill.ty s76.2.2.2.2.2.2.2.2 :: ([] : List Item), rowL v6 4 1 lB s7.1 :: rowL v3 154 2 RegallocPoint.ty s7.2 :: Item.blk g0 135 [(tI s76.2.1), (tI s76.2.2.1), (tL 5 Block.ty s76.2.2.2.1), (tL 1 ls_SSI s76.2.2.2.2.1), (Ty.own v0_4), (Ty.own v0_5), (Ty.own w77), (tI s76.2.2.2.2.2.1)] :: rowL v0_4 4 1 lB s76.2.2.2.2.2.2.1 :: rowL v0_5 72 2 Location.ty s76.2.2.2.2.2.2.2.1 :: rowL w77 76 5 Spill.ty s76.2.2.2.2.2.2.2.2 :: ([] : List Item), []⟩ [] mixed rfl rfl (by kernel_rfl) rfl (by kernel_rfl) rfl rfl rfl (fun _ h => List.Sublist.subset (.cons_cons _ (.cons_cons _ (.cons_cons _ (.cons_cons _ (.cons_cons _ (.cons_cons _ (List.nil_sublist _))))))) h) (fun _ h => List.Sublist.subset (.cons_cons _ (.cons_cons _ (.cons_cons _ (.cons_cons _ (.cons_cons _ (.cons_cons _ (List.nil_sublist _))))))) h) rfl (by kernel_rfl) (.inr ⟨by kernel_rfl, by kernel_rfl⟩) (by kernel_rfl) (by kernel_rfl) (dc (draw_plain rfl (does_move rfl)) (dc (draw_plain rfl (does_move rfl)) (dc (draw_plain rfl (does_move rfl)) (dc (draw_plain rfl (does_move rfl)) (dc (draw_plain rfl (does_indexR (f := RegallocPoint.ty) (l := s7.2) (m := y79) el152 1 y81 hi82 rfl rfl rfl)) (dc (draw_plain rfl (does_fieldAddrR (y79.toNat * 2 + 0) Tryd.underlying154 rfl Tryd.sizeOf3 rfl rfl)) (dc (draw_plain rfl (does_loadR1 (sz := 2) (f := RegallocPoint.ty) (l := s7.2) 1 y81 0 Tryd.isAgg3 hi82 rfl rfl rfl)) (dc (draw_plain rfl (does_move rfl)) (dc (draw_plain rfl (does_move rfl)) (dc (draw_plain rfl (does_indexR (f := RegallocPoint.ty) (l := s7.2) (m := y79) el152 1 y83 hi84 rfl rfl rfl)) (dc (draw_plain rfl (does_fieldAddrR (y79.toNat * 2 + 1) Tryd.underlying154 rfl Tryd.sizeOf3 rfl rfl)) (dc (draw_plain rfl (does_loadR1 (sz := 2) (f := RegallocPoint.ty) (l := s7.2) 1 y83 1 Tryd.isAgg3 hi84 rfl rfl rfl)) (dc (draw_plain rfl (does_build [(tI y79), (tI 1), (tI y81.block), (tI y83.index), (Ty.val (.slice none 0 0))] Tryd.zeroValue76 Tryd.underlying76 (places76 _ Tryd.underlying76) rfl (fc [(tI y79)] 0 rfl (part_one (one_i _)) rfl rfl (fc [(tI 1)] 1 rfl (part_one (one_i _)) rfl rfl (fc [(tI y81.block)] 2 rfl (part_one (one_i _)) rfl rfl (fc [(tI y83.index)] 3 rfl (part_one (one_i _)) rfl rfl (fn_ rfl))))))) (dn)))))))))))))) ?_
          refine ch_end ?_
          change OkL _ _ _ _ [(97, (pAt g0 0)), (98, (tI y79)), (99, (Ty.own v3)), (100, (tI y79)), (101, (Ty.rptr v3 (y79.toNat * 2))), (102, (Ty.rptr v3 (y79.toNat * 2))), (103, (tI y81.block)), (104, (Ty.own v3)), (105, (tI y79)), (106, (Ty.rptr v3 (y79.toNat * 2))), (107, (Ty.rptr v3 (y79.toNat * 2 + 1))), (108, (tI y83.index)), (109, (Ty.agg [(tI y79), (tI 1), (tI y81.block), (tI y83.index), (Ty.val (.slice none 0 0))])), (0, (pAt g0 0)), (2, (Ty.own v3)), (11, (tI y79)), (91, (tL 1 lI r69)), (92, (tI ((r69).length : Int))), (93, (tI s76.1))] (rowL v6 4 1 lB s7.1 :: rowL v3 154 2 RegallocPoint.ty s7.2 :: Item.blk g0 135 [(tI s76.2.1), (tI s76.2.2.1), (tL 5 Block.ty s76.2.2.2.1), (tL 1 ls_SSI s76.2.2.2.2.1), (Ty.own v0_4), (Ty.own v0_5), (Ty.own w77), (tI s76.2.2.2.2.2.1)] :: rowL v0_4 4 1 lB s76.2.2.2.2.2.2.1 :: rowL v0_5 72 2 Location.ty s76.2.2.2.2.2.2.2.1 :: rowL w77 76 5 Spill.ty s76.2.2.2.2.2.2.2.2 :: L)
          obtain ⟨r85, hc86, h⟩ := bs h
          refine okL_stepO 110 rfl rfl (doesO_callS (rowL v6 4 1 lB s7.1 :: rowL v3 154 2 RegallocPoint.ty s7.2 :: L) (c_regalloc_allocator_spill (⟨(⟨s76.2.1, s76.2.2.1, s76.2.2.2.1⟩ : VFunc), s76.2.2.2.2.1, s76.2.2.2.2.2.2.1, (⟨s76.2.2.2.2.2.2.2.1, s76.2.2.2.2.2.2.2.2, s76.2.2.2.2.2.1⟩ : Allocation)⟩ : RegallocAllocator) (⟨y79, 1, y81.block, y83.index, []⟩ : Spill) g0 v0_4 v0_5 w77 r85 hc86) rfl Tryd.call117 (.cons rfl (sub_refl _) (.cons rfl (sub_aggs (.cons (sub_refl _) (.cons (sub_refl _) (.cons (sub_refl _) (.cons (sub_refl _) (.cons (sub_nil _) SubL.nil)))))) ArgSub.nil)) (pm 2 rfl (pm 2 rfl (pm 2 rfl (pm 2 rfl (pr _))))) (fun v87 => ?_))
          refine okL_nil ?_
          refine okX_block_normal ?_
          refine okX_next ?_
          refine okC_region ?_
          refine okL_step 111 (tI (w64 (s76.1 + 1))) rfl rfl (does_add rfl rfl) ?_
          refine okL_step 93 (tI (w64 (s76.1 + 1))) rfl rfl (does_move rfl) ?_
          refine okL_nil ?_
          refine okX_items [] (rowL v6 4 1 lB s7.1 :: rowL v3 154 2 RegallocPoint.ty s7.2 :: Item.blk g0 135 [(tI r85.c.Params), (tI r85.c.Regs), (tL 5 Block.ty r85.c.Blocks), (tL 1 ls_SSI r85.at_), (Ty.own v0_4), (Ty.own v0_5), (Ty.own v87), (tI r85.a.Slots)] :: rowL v0_4 4 1 lB r85.spilled :: rowL v0_5 72 2 Location.ty r85.a.Locations :: rowL v87 76 5 Spill.ty r85.a.Spills :: L) (pm 4 rfl (pm 4 rfl (pm 0 rfl (pm 0 rfl (pm 0 rfl (pm 0 rfl (pr _))))))) ?_
          exact okX_again k (Nat.lt_succ_self k) (((w64 (s76.1 + 1)), r85.c.Params, r85.c.Regs, r85.c.Blocks, r85.at_, r85.a.Slots, r85.spilled, r85.a.Locations, r85.a.Spills), v87) h (cc rfl (cc rfl (cc rfl (cc rfl (cc rfl cn))))) rfl
        · replace h := cf hb78 h
          refine okC_exit ?_
          refine okX_then_exit ?_
          refine okX_again_exit ?_
          refine okX_block_hit ?_
          exact okX_meet (I := _) ((s76.2.1, s76.2.2.1, s76.2.2.2.1, s76.2.2.2.2.1, s76.2.2.2.2.2.1, s76.2.2.2.2.2.2.1, s76.2.2.2.2.2.2.2.1, s76.2.2.2.2.2.2.2.2), w77) (smh h) cn rfl
    · intro x hx
      obtain ⟨s71, w72⟩ := x
      change OkX _ _ _ [] (rowL v6 4 1 lB s7.1 :: rowL v3 154 2 RegallocPoint.ty s7.2 :: Item.blk g0 135 [(tI s71.1), (tI s71.2.1), (tL 5 Block.ty s71.2.2.1), (tL 1 ls_SSI s71.2.2.2.1), (Ty.own v0_4), (Ty.own v0_5), (Ty.own w72), (tI s71.2.2.2.2.1)] :: rowL v0_4 4 1 lB s71.2.2.2.2.2.1 :: rowL v0_5 72 2 Location.ty s71.2.2.2.2.2.2.1 :: rowL w72 76 5 Spill.ty s71.2.2.2.2.2.2.2 :: L)
      obtain rfl : s71 = z73 := hx.symm
      replace h := hz74
      obtain rfl := (smh h).symm
      refine okX_items [rowL v6 4 1 lB s7.1, rowL v3 154 2 RegallocPoint.ty s7.2] (Item.blk g0 135 [(tI s71.1), (tI s71.2.1), (tL 5 Block.ty s71.2.2.1), (tL 1 ls_SSI s71.2.2.2.1), (Ty.own v0_4), (Ty.own v0_5), (Ty.own w72), (tI s71.2.2.2.2.1)] :: rowL v0_4 4 1 lB s71.2.2.2.2.2.1 :: rowL v0_5 72 2 Location.ty s71.2.2.2.2.2.2.1 :: rowL w72 76 5 Spill.ty s71.2.2.2.2.2.2.2 :: L) (pm 0 rfl (pm 0 rfl (pm 0 rfl (pm 0 rfl (pm 0 rfl (pm 0 rfl (pr _))))))) ?_
      exact okX_end0 w72 Tryd.results92 rfl rfl

end Go.Proofs.YtocfnpnnbmicmaaDoor.Tc
