/- Written by gen.py: for each Go function a pure Lean function, and that the Go code comes to what it says. -/
import Derived.Test.YtocfnpnnbmicmaaDoorXRb1
set_option linter.unusedVariables false
set_option maxRecDepth 8000
set_option maxHeartbeats 4000000
namespace Go.Proofs.YtocfnpnnbmicmaaDoor.Tc
open Go Go.RowKit

def vcode_validInstr_l1 (K : Nat) (a0 : VFunc) (a1 : VInstr) : Nat → Int → Option (Unit ⊕ Bool)
  | 0, _ => none
  | k + 1, s16 => (cnd (decide (s16 < ((a1.Args).length : Int))) (Option.bind (idx a1.Args s16) (fun y19 => (Option.bind (vcode_validInstr_1 y19 a0) (fun r21 => (cnd (!r21) (out (some false)) (vcode_validInstr_l1 K a0 a1 k (w64 (s16 + 1)))))))) (inn ()))

def vcode_validInstr (K : Nat) (a0 : VFunc) (a1 : VInstr) : Option Bool :=
  (Option.bind (vcode_allowed a1.Instr.Op) (fun r4 => (cnd (((!r4) || (decide (((a1.Args).length : Int) > 6))) || ((a1.Instr.Op != 6) && (decide (((a1.Args).length : Int) > 0)))) (some false) (sq (vcode_validInstr_l1 K a0 a1 K 0) (fun s11 => (Option.bind (Option.bind (vcode_form a1.Instr.Op) (fun r29 => (cnd (r29 == 2) (some (true, false, false, false)) (cnd (r29 == 3) (some (true, true, false, false)) (cnd (r29 == 4) (some (true, true, true, false)) (cnd (r29 == 5) (some (true, false, false, true)) (cnd (r29 == 7) (some (true, true, false, true)) (some (false, false, false, false))))))))) (fun s24 => (Option.bind (cnd s24.1 (Option.bind (vcode_validInstr_1 a1.Instr.A a0) (fun r41 => (some (!r41)))) (some false)) (fun x40 => (Option.bind (cnd x40 (some true) (Option.bind (cnd s24.2.1 (Option.bind (vcode_validInstr_1 a1.Instr.B a0) (fun r53 => (some (!r53)))) (some false)) (fun x52 => (some x52)))) (fun x47 => (Option.bind (cnd x47 (some true) (Option.bind (cnd s24.2.2.1 (Option.bind (vcode_validInstr_1 a1.Instr.C a0) (fun r65 => (some (!r65)))) (some false)) (fun x64 => (some x64)))) (fun x59 => (cnd ((((x59 || ((!s24.1) && (a1.Instr.A != 0))) || ((!s24.2.1) && (a1.Instr.B != 0))) || ((!s24.2.2.1) && (a1.Instr.C != 0))) || ((!s24.2.2.2) && (a1.Instr.N != 0))) (some false) (cnd (a1.Instr.Op == 33) (some ((decide (a1.Instr.N ≥ (-4194304))) && (decide (a1.Instr.N < 4194304)))) (cnd (a1.Instr.Op == 6) (some ((decide (a1.Instr.N ≥ 0)) && (decide (a1.Instr.N < 8)))) (Option.bind (cnd (a1.Instr.Op == 34) (some (a1.Instr.Op == 34)) (some (a1.Instr.Op == 35))) (fun s86 => (cnd s86 (some ((decide (a1.Instr.N ≥ 0)) && (decide (a1.Instr.N < 4)))) (cnd (a1.Instr.Op == 38) (some ((decide (a1.Instr.N ≥ 0)) && (decide (a1.Instr.N < a0.Params)))) (some true)))))))))))))))))))))

theorem c_vcode_validInstr (K : Nat) (a0 : VFunc) (a1 : VInstr) (r : Bool) (h : vcode_validInstr K a0 a1 = some r) : CallP Tryd.prog glob 103 [(Ty.agg [(tI a0.Params), (tI a0.Regs), (tL 5 Block.ty a0.Blocks)]), (Ty.agg [(tI a1.Instr.Op), (tI a1.Instr.A), (tI a1.Instr.B), (tI a1.Instr.C), (tI a1.Instr.N), (tL 1 lI a1.Args)])] (tB r) := by
  refine call_of_code Tryd.func103 rfl Tryd.ntmps103 rfl (fun L w => ?_)
  change OkC _ _ _ [(0, (Ty.agg [(tI a0.Params), (tI a0.Regs), (tL 5 Block.ty a0.Blocks)])), (1, (Ty.agg [(tI a1.Instr.Op), (tI a1.Instr.A), (tI a1.Instr.B), (tI a1.Instr.C), (tI a1.Instr.N), (tL 1 lI a1.Args)]))] (L)
  unfold vcode_validInstr at h
  refine okC_seq ?_
  refine okC_region ?_
  refine okL_stepO 2 rfl rfl (doesO_box [(tI a0.Params), (tI a0.Regs), (tL 5 Block.ty a0.Blocks)] rfl (part_agg _) (fun g1 => ?_))
  refine okL_stepO 3 rfl rfl (doesO_box [(tI a1.Instr.Op), (tI a1.Instr.A), (tI a1.Instr.B), (tI a1.Instr.C), (tI a1.Instr.N), (tL 1 lI a1.Args)] rfl (part_agg _) (fun g2 => ?_))
  refine okL_step 4 (tB false) rfl rfl (does_assign rfl) ?_
  refine okL_nil ?_
  refine okX_next ?_
  refine okC_seq ?_
  refine okC_region ?_
  refine okL_step 13 (pAt g2 0) rfl rfl (does_fieldAddrP 0 Tryd.underlying48 rfl Tryd.sizeOf46 rfl rfl) ?_
  refine okL_step 14 (Ty.agg [(tI a1.Instr.Op), (tI a1.Instr.A), (tI a1.Instr.B), (tI a1.Instr.C), (tI a1.Instr.N)]) rfl rfl (does_loadBA [(tI a1.Instr.Op), (tI a1.Instr.A), (tI a1.Instr.B), (tI a1.Instr.C), (tI a1.Instr.N)] Tryd.isAgg46 Tryd.sizeOf46 rfl 0 rfl rfl rfl) ?_
  refine okL_stepO 5 rfl rfl (doesO_alloc [(tI 0), (tI 0), (tI 0), (tI 0), (tI 0)] Tryd.zeroValue46 (part_of (sub_agg [(.int .i64 0), (.int .i64 0), (.int .i64 0), (.int .i64 0), (.int .i64 0)] rfl) (part_agg _)) (fun g3 => ?_))
  refine okL_stepU rfl (doesO_storeB (ps := [(tI a1.Instr.Op), (tI a1.Instr.A), (tI a1.Instr.B), (tI a1.Instr.C), (tI a1.Instr.N)]) 0 [(tI a1.Instr.Op), (tI a1.Instr.A), (tI a1.Instr.B), (tI a1.Instr.C), (tI a1.Instr.N)] (Item.blk g3 46 [(tI a1.Instr.Op), (tI a1.Instr.A), (tI a1.Instr.B), (tI a1.Instr.C), (tI a1.Instr.N)] :: Item.blk g2 48 [(tI a1.Instr.Op), (tI a1.Instr.A), (tI a1.Instr.B), (tI a1.Instr.C), (tI a1.Instr.N), (tL 1 lI a1.Args)] :: Item.blk g1 27 [(tI a0.Params), (tI a0.Regs), (tL 5 Block.ty a0.Blocks)] :: L) rfl rfl (part_agg _) Tryd.sizeOf46 rfl rfl rfl rfl ?_)
  refine okL_nil ?_
  refine okX_next ?_
  refine okC_seq ?_
  refine okC_seq ?_
  refine okC_region ?_
  refine okL_step 15 (pAt g3 0) rfl rfl (does_fieldAddrP 0 Tryd.underlying46 rfl Tryd.sizeOf3 rfl rfl) ?_
  refine okL_step 16 (tI a1.Instr.Op) rfl rfl (does_loadB1 Tryd.isAgg3 rfl 0 rfl rfl) ?_
  obtain ⟨r4, hc5, h⟩ := bs h
  refine okL_step 17 (tB r4) rfl rfl (does_call0 (c_vcode_allowed a1.Instr.Op r4 hc5) rfl Tryd.call119 rfl) ?_
  refine okL_step 18 (tB (!r4)) rfl rfl (does_not rfl) ?_
  refine okL_step 19 (tB (!r4)) rfl rfl (does_move rfl) ?_
  refine okL_meet (X := Bool) 5 (fun x => x = ((!r4) || (decide (((a1.Args).length : Int) > 6)))) (fun x : Bool => [(2, (pAt g1 0)), (3, (pAt g2 0)), (5, (pAt g3 0)), (24, (tB x))]) (fun x : Bool => Item.blk g3 46 [(tI a1.Instr.Op), (tI a1.Instr.A), (tI a1.Instr.B), (tI a1.Instr.C), (tI a1.Instr.N)] :: Item.blk g2 48 [(tI a1.Instr.Op), (tI a1.Instr.A), (tI a1.Instr.B), (tI a1.Instr.C), (tI a1.Instr.N), (tL 1 lI a1.Args)] :: Item.blk g1 27 [(tI a0.Params), (tI a0.Regs), (tL 5 Block.ty a0.Blocks)] :: L) _ rfl ?_ ?_
  · refine okL_split (!r4) (fun hb6 => ?_) (fun hb6 => ?_)
    · refine okL_skip 20 19 (!r4) rfl rfl hb6 rfl rfl ?_
      refine okL_skip 21 19 (!r4) rfl rfl hb6 rfl rfl ?_
      refine okL_skip 22 19 (!r4) rfl rfl hb6 rfl rfl ?_
      refine okL_skip 23 19 (!r4) rfl rfl hb6 rfl rfl ?_
      refine okL_step 24 (tB true) rfl rfl (does_pick_t (!r4) rfl hb6 rfl) ?_
      refine okL_nil ?_
      exact okX_meet (I := _) true (or_t hb6) (cc rfl (cc rfl (cc rfl (cc rfl cn)))) rfl
    · refine okL_guard 20 (pAt g2 5) 19 (!r4) rfl rfl hb6 rfl rfl (does_fieldAddrP 5 Tryd.underlying48 rfl Tryd.sizeOf31 rfl rfl) ?_
      refine okL_guard 21 (tL 1 lI a1.Args) 19 (!r4) rfl rfl hb6 rfl rfl (does_loadB1 Tryd.isAgg31 rfl 1 rfl rfl) ?_
      refine okL_guard 22 (tI ((a1.Args).length : Int)) 19 (!r4) rfl rfl hb6 rfl rfl (does_len (sz := 1) (f := lI) (l := a1.Args) rfl Tryd.underlying31 rfl) ?_
      refine okL_guard 23 (tB (decide (((a1.Args).length : Int) > 6))) 19 (!r4) rfl rfl hb6 rfl rfl (does_gtr rfl rfl) ?_
      refine okL_step 24 (tB (decide (((a1.Args).length : Int) > 6))) rfl rfl (does_pick_f (!r4) rfl hb6 rfl) ?_
      refine okL_nil ?_
      exact okX_meet (I := _) (decide (((a1.Args).length : Int) > 6)) (or_f hb6) (cc rfl (cc rfl (cc rfl (cc rfl cn)))) rfl
  · intro x103 hx
    subst hx
    change OkL _ _ _ _ [(2, (pAt g1 0)), (3, (pAt g2 0)), (5, (pAt g3 0)), (24, (tB ((!r4) || (decide (((a1.Args).length : Int) > 6)))))] (Item.blk g3 46 [(tI a1.Instr.Op), (tI a1.Instr.A), (tI a1.Instr.B), (tI a1.Instr.C), (tI a1.Instr.N)] :: Item.blk g2 48 [(tI a1.Instr.Op), (tI a1.Instr.A), (tI a1.Instr.B), (tI a1.Instr.C), (tI a1.Instr.N), (tL 1 lI a1.Args)] :: Item.blk g1 27 [(tI a0.Params), (tI a0.Regs), (tL 5 Block.ty a0.Blocks)] :: L)
    refine okL_step 25 (tB ((!r4) || (decide (((a1.Args).length : Int) > 6)))) rfl rfl (does_move rfl) ?_
    refine okL_meet (X := Bool) 10 (fun x => x = (((!r4) || (decide (((a1.Args).length : Int) > 6))) || ((a1.Instr.Op != 6) && (decide (((a1.Args).length : Int) > 0))))) (fun x : Bool => [(2, (pAt g1 0)), (3, (pAt g2 0)), (5, (pAt g3 0)), (35, (tB x))]) (fun x : Bool => Item.blk g3 46 [(tI a1.Instr.Op), (tI a1.Instr.A), (tI a1.Instr.B), (tI a1.Instr.C), (tI a1.Instr.N)] :: Item.blk g2 48 [(tI a1.Instr.Op), (tI a1.Instr.A), (tI a1.Instr.B), (tI a1.Instr.C), (tI a1.Instr.N), (tL 1 lI a1.Args)] :: Item.blk g1 27 [(tI a0.Params), (tI a0.Regs), (tL 5 Block.ty a0.Blocks)] :: L) _ rfl ?_ ?_
    · refine okL_split ((!r4) || (decide (((a1.Args).length : Int) > 6))) (fun hb7 => ?_) (fun hb7 => ?_)
      · refine okL_skip 26 25 ((!r4) || (decide (((a1.Args).length : Int) > 6))) rfl rfl hb7 rfl rfl ?_
        refine okL_skip 27 25 ((!r4) || (decide (((a1.Args).length : Int) > 6))) rfl rfl hb7 rfl rfl ?_
        refine okL_skip 28 25 ((!r4) || (decide (((a1.Args).length : Int) > 6))) rfl rfl hb7 rfl rfl ?_
        refine okL_skip 29 25 ((!r4) || (decide (((a1.Args).length : Int) > 6))) rfl rfl hb7 rfl rfl ?_
        refine okL_skipU 30 29 rfl rfl rfl rfl ?_
        refine okL_skipU 31 29 rfl rfl rfl rfl ?_
        refine okL_skipU 32 29 rfl rfl rfl rfl ?_
        refine okL_skipU 33 29 rfl rfl rfl rfl ?_
        refine okL_skip 34 25 ((!r4) || (decide (((a1.Args).length : Int) > 6))) rfl rfl hb7 rfl rfl ?_
        refine okL_step 35 (tB true) rfl rfl (does_pick_t ((!r4) || (decide (((a1.Args).length : Int) > 6))) rfl hb7 rfl) ?_
        refine okL_nil ?_
        exact okX_meet (I := _) true (or_t hb7) (cc rfl (cc rfl (cc rfl (cc rfl cn)))) rfl
      · refine okL_guard 26 (pAt g3 0) 25 ((!r4) || (decide (((a1.Args).length : Int) > 6))) rfl rfl hb7 rfl rfl (does_fieldAddrP 0 Tryd.underlying46 rfl Tryd.sizeOf3 rfl rfl) ?_
        refine okL_guard 27 (tI a1.Instr.Op) 25 ((!r4) || (decide (((a1.Args).length : Int) > 6))) rfl rfl hb7 rfl rfl (does_loadB1 Tryd.isAgg3 rfl 0 rfl rfl) ?_
        refine okL_guard 28 (tB (a1.Instr.Op != 6)) 25 ((!r4) || (decide (((a1.Args).length : Int) > 6))) rfl rfl hb7 rfl rfl (does_neq rfl rfl) ?_
        refine okL_guard 29 (tB (a1.Instr.Op != 6)) 25 ((!r4) || (decide (((a1.Args).length : Int) > 6))) rfl rfl hb7 rfl rfl (does_move rfl) ?_
        refine okL_meet (X := Bool) 5 (fun x => x = ((a1.Instr.Op != 6) && (decide (((a1.Args).length : Int) > 0)))) (fun x : Bool => [(2, (pAt g1 0)), (3, (pAt g2 0)), (5, (pAt g3 0)), (25, (tB ((!r4) || (decide (((a1.Args).length : Int) > 6))))), (34, (tB x))]) (fun x : Bool => Item.blk g3 46 [(tI a1.Instr.Op), (tI a1.Instr.A), (tI a1.Instr.B), (tI a1.Instr.C), (tI a1.Instr.N)] :: Item.blk g2 48 [(tI a1.Instr.Op), (tI a1.Instr.A), (tI a1.Instr.B), (tI a1.Instr.C), (tI a1.Instr.N), (tL 1 lI a1.Args)] :: Item.blk g1 27 [(tI a0.Params), (tI a0.Regs), (tL 5 Block.ty a0.Blocks)] :: L) _ rfl ?_ ?_
        · refine okL_split (a1.Instr.Op != 6) (fun hb8 => ?_) (fun hb8 => ?_)
          · refine okL_guard 30 (pAt g2 5) 29 (a1.Instr.Op != 6) rfl rfl hb8 rfl rfl (does_fieldAddrP 5 Tryd.underlying48 rfl Tryd.sizeOf31 rfl rfl) ?_
            refine okL_guard 31 (tL 1 lI a1.Args) 29 (a1.Instr.Op != 6) rfl rfl hb8 rfl rfl (does_loadB1 Tryd.isAgg31 rfl 1 rfl rfl) ?_
            refine okL_guard 32 (tI ((a1.Args).length : Int)) 29 (a1.Instr.Op != 6) rfl rfl hb8 rfl rfl (does_len (sz := 1) (f := lI) (l := a1.Args) rfl Tryd.underlying31 rfl) ?_
            refine okL_guard 33 (tB (decide (((a1.Args).length : Int) > 0))) 29 (a1.Instr.Op != 6) rfl rfl hb8 rfl rfl (does_gtr rfl rfl) ?_
            refine okL_guard 34 (tB (decide (((a1.Args).length : Int) > 0))) 25 ((!r4) || (decide (((a1.Args).length : Int) > 6))) rfl rfl hb7 rfl rfl (does_pick_t (a1.Instr.Op != 6) rfl hb8 rfl) ?_
            refine okL_nil ?_
            exact okX_meet (I := _) (decide (((a1.Args).length : Int) > 0)) (and_t hb8) (cc rfl (cc rfl (cc rfl (cc rfl (cc rfl cn))))) rfl
          · refine okL_skip 30 29 (a1.Instr.Op != 6) rfl rfl hb8 rfl rfl ?_
            refine okL_skip 31 29 (a1.Instr.Op != 6) rfl rfl hb8 rfl rfl ?_
            refine okL_skip 32 29 (a1.Instr.Op != 6) rfl rfl hb8 rfl rfl ?_
            refine okL_skip 33 29 (a1.Instr.Op != 6) rfl rfl hb8 rfl rfl ?_
            refine okL_guard 34 (tB false) 25 ((!r4) || (decide (((a1.Args).length : Int) > 6))) rfl rfl hb7 rfl rfl (does_pick_f (a1.Instr.Op != 6) rfl hb8 rfl) ?_
            refine okL_nil ?_
            exact okX_meet (I := _) false (and_f hb8) (cc rfl (cc rfl (cc rfl (cc rfl (cc rfl cn))))) rfl
        · intro x9 hx
          subst hx
          change OkL _ _ _ _ [(2, (pAt g1 0)), (3, (pAt g2 0)), (5, (pAt g3 0)), (25, (tB ((!r4) || (decide (((a1.Args).length : Int) > 6))))), (34, (tB ((a1.Instr.Op != 6) && (decide (((a1.Args).length : Int) > 0)))))] (Item.blk g3 46 [(tI a1.Instr.Op), (tI a1.Instr.A), (tI a1.Instr.B), (tI a1.Instr.C), (tI a1.Instr.N)] :: Item.blk g2 48 [(tI a1.Instr.Op), (tI a1.Instr.A), (tI a1.Instr.B), (tI a1.Instr.C), (tI a1.Instr.N), (tL 1 lI a1.Args)] :: Item.blk g1 27 [(tI a0.Params), (tI a0.Regs), (tL 5 Block.ty a0.Blocks)] :: L)
          refine okL_step 35 (tB ((a1.Instr.Op != 6) && (decide (((a1.Args).length : Int) > 0)))) rfl rfl (does_pick_f ((!r4) || (decide (((a1.Args).length : Int) > 6))) rfl hb7 rfl) ?_
          refine okL_nil ?_
          exact okX_meet (I := _) ((a1.Instr.Op != 6) && (decide (((a1.Args).length : Int) > 0))) (or_f hb7) (cc rfl (cc rfl (cc rfl (cc rfl cn)))) rfl
    · intro x102 hx
      subst hx
      change OkL _ _ _ _ [(2, (pAt g1 0)), (3, (pAt g2 0)), (5, (pAt g3 0)), (35, (tB (((!r4) || (decide (((a1.Args).length : Int) > 6))) || ((a1.Instr.Op != 6) && (decide (((a1.Args).length : Int) > 0))))))] (Item.blk g3 46 [(tI a1.Instr.Op), (tI a1.Instr.A), (tI a1.Instr.B), (tI a1.Instr.C), (tI a1.Instr.N)] :: Item.blk g2 48 [(tI a1.Instr.Op), (tI a1.Instr.A), (tI a1.Instr.B), (tI a1.Instr.C), (tI a1.Instr.N), (tL 1 lI a1.Args)] :: Item.blk g1 27 [(tI a0.Params), (tI a0.Regs), (tL 5 Block.ty a0.Blocks)] :: L)
      refine okL_nil ?_
      refine okX_next ?_
      refine okC_cond (b := (((!r4) || (decide (((a1.Args).length : Int) > 6))) || ((a1.Instr.Op != 6) && (decide (((a1.Args).length : Int) > 0))))) rfl (fun hb10 => ?_) (fun hb10 => ?_)
      · replace h := ct hb10 h
        refine okC_seq ?_
        refine okC_region ?_
        refine okL_step 4 (tB false) rfl rfl (does_assign rfl) ?_
        refine okL_nil ?_
        refine okX_next ?_
        refine okC_ret ?_
        refine okX_then_ret ?_
        obtain rfl := (smh h).symm
        refine okX_items [Item.blk g3 46 [(tI a1.Instr.Op), (tI a1.Instr.A), (tI a1.Instr.B), (tI a1.Instr.C), (tI a1.Instr.N)], Item.blk g2 48 [(tI a1.Instr.Op), (tI a1.Instr.A), (tI a1.Instr.B), (tI a1.Instr.C), (tI a1.Instr.N), (tL 1 lI a1.Args)], Item.blk g1 27 [(tI a0.Params), (tI a0.Regs), (tL 5 Block.ty a0.Blocks)]] (L) (pm 0 rfl (pm 0 rfl (pm 0 rfl (pr _)))) ?_
        exact okX_ret1 () Tryd.results103 rfl rfl
      · replace h := cf hb10 h
        refine okC_skip ?_
        refine okX_next ?_
        refine okC_seq ?_
        refine okC_region ?_
        refine okL_step 36 (Ty.val (.func (.func 126) #[] #[(.pointer (some ⟨g1, 0, none⟩))])) rfl rfl (does_makeFunc (vs := [(.pointer (some ⟨g1, 0, none⟩))]) rfl) ?_
        refine okL_step 6 (Ty.val (.func (.func 126) #[] #[(.pointer (some ⟨g1, 0, none⟩))])) rfl rfl (does_assign rfl) ?_
        refine okL_nil ?_
        refine okX_next ?_
        refine okC_seq ?_
        refine okC_seq ?_
        refine okC_region ?_
        refine okL_step 37 (pAt g2 5) rfl rfl (does_fieldAddrP 5 Tryd.underlying48 rfl Tryd.sizeOf31 rfl rfl) ?_
        refine okL_step 38 (tL 1 lI a1.Args) rfl rfl (does_loadB1 Tryd.isAgg31 rfl 1 rfl rfl) ?_
        refine okL_step 39 (tI ((a1.Args).length : Int)) rfl rfl (does_len (sz := 1) (f := lI) (l := a1.Args) rfl Tryd.underlying31 rfl) ?_
        refine okL_step 40 (tI 0) rfl rfl (does_move rfl) ?_
        refine okL_nil ?_
        refine okX_next ?_
        obtain ⟨z13, h15, hz14⟩ := sqs h
        refine okC_meetE (X := Unit) (fun x => z13 = .inl x) (fun x : Unit => [(2, (pAt g1 0)), (5, (pAt g3 0)), (6, (Ty.val (.func (.func 126) #[] #[(.pointer (some ⟨g1, 0, none⟩))])))]) (fun x : Unit => Item.blk g3 46 [(tI a1.Instr.Op), (tI a1.Instr.A), (tI a1.Instr.B), (tI a1.Instr.C), (tI a1.Instr.N)] :: Item.blk g2 48 [(tI a1.Instr.Op), (tI a1.Instr.A), (tI a1.Instr.B), (tI a1.Instr.C), (tI a1.Instr.N), (tL 1 lI a1.Args)] :: Item.blk g1 27 [(tI a0.Params), (tI a0.Regs), (tL 5 Block.ty a0.Blocks)] :: L) ?_ ?_
        · refine okC_block ?_
          refine okC_loop (X := Int) (fun k x => vcode_validInstr_l1 K a0 a1 k x = some z13) (fun x : Int => [(2, (pAt g1 0)), (5, (pAt g3 0)), (6, (Ty.val (.func (.func 126) #[] #[(.pointer (some ⟨g1, 0, none⟩))]))), (38, (tL 1 lI a1.Args)), (39, (tI ((a1.Args).length : Int))), (40, (tI x))]) (fun x : Int => Item.blk g3 46 [(tI a1.Instr.Op), (tI a1.Instr.A), (tI a1.Instr.B), (tI a1.Instr.C), (tI a1.Instr.N)] :: Item.blk g2 48 [(tI a1.Instr.Op), (tI a1.Instr.A), (tI a1.Instr.B), (tI a1.Instr.C), (tI a1.Instr.N), (tL 1 lI a1.Args)] :: Item.blk g1 27 [(tI a0.Params), (tI a0.Regs), (tL 5 Block.ty a0.Blocks)] :: L) K 0 h15 (cc rfl (cc rfl (cc rfl (cc rfl (cc rfl (cc rfl cn)))))) rfl (fun k s16 hI => ?_)
          change OkC _ _ _ [(2, (pAt g1 0)), (5, (pAt g3 0)), (6, (Ty.val (.func (.func 126) #[] #[(.pointer (some ⟨g1, 0, none⟩))]))), (38, (tL 1 lI a1.Args)), (39, (tI ((a1.Args).length : Int))), (40, (tI s16))] (Item.blk g3 46 [(tI a1.Instr.Op), (tI a1.Instr.A), (tI a1.Instr.B), (tI a1.Instr.C), (tI a1.Instr.N)] :: Item.blk g2 48 [(tI a1.Instr.Op), (tI a1.Instr.A), (tI a1.Instr.B), (tI a1.Instr.C), (tI a1.Instr.N), (tL 1 lI a1.Args)] :: Item.blk g1 27 [(tI a0.Params), (tI a0.Regs), (tL 5 Block.ty a0.Blocks)] :: L)
          cases k with
          | zero => exact (nz hI).elim
          | succ k =>
            have h : vcode_validInstr_l1 K a0 a1 (k + 1) s16 = some z13 := hI
            rw [vcode_validInstr_l1.eq_2] at h
            refine okC_seq ?_
            refine okC_region ?_
            refine okL_step 41 (tB (decide (s16 < ((a1.Args).length : Int)))) rfl rfl (does_lss rfl rfl) ?_
            refine okL_nil ?_
            refine okX_next ?_
            refine okC_seq ?_
            refine okC_cond (b := (decide (s16 < ((a1.Args).length : Int)))) rfl (fun hb18 => ?_) (fun hb18 => ?_)
            · replace h := ct hb18 h
              refine okC_skip ?_
              refine okX_next ?_
              refine okC_seq ?_
              refine okC_block ?_
              refine okC_seq ?_
              refine okC_region ?_
              obtain ⟨y19, hi20, h⟩ := bs h
              refine okL_step 42 (Ty.ptr [(tI y19)]) rfl rfl (does_index (sz := 1) (f := lI) (l := a1.Args) (n := s16) y19 Tryd.underlying31 Tryd.sizeOf3 hi20 rfl rfl) ?_
              refine okL_step 43 (tI y19) rfl rfl (does_load1 Tryd.isAgg3 rfl) ?_
              refine okL_step 8 (tI y19) rfl rfl (does_assign rfl) ?_
              refine okL_nil ?_
              refine okX_next ?_
              refine okC_seq ?_
              refine okC_region ?_
              refine okL_step 44 (Ty.val (.func (.func 126) #[] #[(.pointer (some ⟨g1, 0, none⟩))])) rfl rfl (does_move rfl) ?_
              refine okL_step 45 (tI y19) rfl rfl (does_move rfl) ?_
              obtain ⟨r21, hc22, h⟩ := bs h
              refine okL_step 46 (tB r21) rfl rfl (does_callC (As := [(tI y19)]) (Cs := [(pAt g1 0)]) 2 rfl (c_vcode_validInstr_1 y19 a0 g1 r21 hc22) rfl Tryd.call126 rfl rfl rfl) ?_
              refine okL_step 47 (tB (!r21)) rfl rfl (does_not rfl) ?_
              refine okL_nil ?_
              refine okX_next ?_
              refine okC_cond (b := (!r21)) rfl (fun hb23 => ?_) (fun hb23 => ?_)
              · replace h := ct hb23 h
                refine okC_seq ?_
                refine okC_region ?_
                refine okL_step 4 (tB false) rfl rfl (does_assign rfl) ?_
                refine okL_nil ?_
                refine okX_next ?_
                refine okC_ret ?_
                refine okX_block_ret ?_
                refine okX_then_ret ?_
                refine okX_again_ret ?_
                refine okX_block_ret ?_
                refine okX_meet_ret ?_
                replace h := outh h hz14
                refine okX_then_ret ?_
                obtain rfl := (smh h).symm
                refine okX_items [Item.blk g3 46 [(tI a1.Instr.Op), (tI a1.Instr.A), (tI a1.Instr.B), (tI a1.Instr.C), (tI a1.Instr.N)], Item.blk g2 48 [(tI a1.Instr.Op), (tI a1.Instr.A), (tI a1.Instr.B), (tI a1.Instr.C), (tI a1.Instr.N), (tL 1 lI a1.Args)], Item.blk g1 27 [(tI a0.Params), (tI a0.Regs), (tL 5 Block.ty a0.Blocks)]] (L) (pm 0 rfl (pm 0 rfl (pm 0 rfl (pr _)))) ?_
                exact okX_ret1 () Tryd.results103 rfl rfl
              · replace h := cf hb23 h
                refine okC_skip ?_
                refine okX_block_normal ?_
                refine okX_next ?_
                refine okC_region ?_
                refine okL_step 48 (tI (w64 (s16 + 1))) rfl rfl (does_add rfl rfl) ?_
                refine okL_step 40 (tI (w64 (s16 + 1))) rfl rfl (does_move rfl) ?_
                refine okL_nil ?_
                exact okX_again k (Nat.lt_succ_self k) (w64 (s16 + 1)) h (cc rfl (cc rfl (cc rfl (cc rfl (cc rfl (cc rfl cn)))))) rfl
            · replace h := cf hb18 h
              refine okC_exit ?_
              refine okX_then_exit ?_
              refine okX_again_exit ?_
              refine okX_block_hit ?_
              exact okX_meet (I := _) () (innh h) (cc rfl (cc rfl (cc rfl cn))) rfl
        · intro s11 hx
          change OkX _ _ _ [(2, (pAt g1 0)), (5, (pAt g3 0)), (6, (Ty.val (.func (.func 126) #[] #[(.pointer (some ⟨g1, 0, none⟩))])))] (Item.blk g3 46 [(tI a1.Instr.Op), (tI a1.Instr.A), (tI a1.Instr.B), (tI a1.Instr.C), (tI a1.Instr.N)] :: Item.blk g2 48 [(tI a1.Instr.Op), (tI a1.Instr.A), (tI a1.Instr.B), (tI a1.Instr.C), (tI a1.Instr.N), (tL 1 lI a1.Args)] :: Item.blk g1 27 [(tI a0.Params), (tI a0.Regs), (tL 5 Block.ty a0.Blocks)] :: L)
          have hx : z13 = .inl s11 := hx
          subst hx
          replace h := hz14
          refine okX_next ?_
          refine okC_seq ?_
          refine okC_region ?_
          refine okL_step 9 (tB false) rfl rfl (does_assign rfl) ?_
          refine okL_step 10 (tB false) rfl rfl (does_assign rfl) ?_
          refine okL_step 11 (tB false) rfl rfl (does_assign rfl) ?_
          refine okL_step 12 (tB false) rfl rfl (does_assign rfl) ?_
          refine okL_nil ?_
          refine okX_next ?_
          obtain ⟨z26, h28, hz27⟩ := bs h
          refine okC_meet (X := (Bool × Bool × Bool × Bool)) (fun x => z26 = x) (fun x : (Bool × Bool × Bool × Bool) => [(2, (pAt g1 0)), (5, (pAt g3 0)), (6, (Ty.val (.func (.func 126) #[] #[(.pointer (some ⟨g1, 0, none⟩))]))), (9, (tB x.1)), (10, (tB x.2.1)), (11, (tB x.2.2.1)), (12, (tB x.2.2.2))]) (fun x : (Bool × Bool × Bool × Bool) => Item.blk g3 46 [(tI a1.Instr.Op), (tI a1.Instr.A), (tI a1.Instr.B), (tI a1.Instr.C), (tI a1.Instr.N)] :: Item.blk g2 48 [(tI a1.Instr.Op), (tI a1.Instr.A), (tI a1.Instr.B), (tI a1.Instr.C), (tI a1.Instr.N), (tL 1 lI a1.Args)] :: Item.blk g1 27 [(tI a0.Params), (tI a0.Regs), (tL 5 Block.ty a0.Blocks)] :: L) ?_ ?_
          · refine okC_seq ?_
            refine okC_region ?_
            refine okL_step 49 (pAt g3 0) rfl rfl (does_fieldAddrP 0 Tryd.underlying46 rfl Tryd.sizeOf3 rfl rfl) ?_
            refine okL_step 50 (tI a1.Instr.Op) rfl rfl (does_loadB1 Tryd.isAgg3 rfl 0 rfl rfl) ?_
            obtain ⟨r29, hc30, h28⟩ := bs h28
            refine okL_step 51 (tI r29) rfl rfl (does_call0 (c_vcode_form a1.Instr.Op r29 hc30) rfl Tryd.call127 rfl) ?_
            refine okL_nil ?_
            refine okX_next ?_
            refine okC_block ?_
            refine okC_seq ?_
            refine okC_region ?_
            refine okL_step 53 (tB (r29 == 2)) rfl rfl (does_eql rfl rfl) ?_
            refine okL_step 52 (tB (r29 == 2)) rfl rfl (does_assign rfl) ?_
            refine okL_nil ?_
            refine okX_next ?_
            refine okC_cond (b := (r29 == 2)) rfl (fun hb31 => ?_) (fun hb31 => ?_)
            · replace h28 := ct hb31 h28
              refine okC_region ?_
              refine okL_step 9 (tB true) rfl rfl (does_assign rfl) ?_
              refine okL_nil ?_
              refine okX_block_normal ?_
              exact okX_meet (I := _) (true, false, false, false) (smh h28) (cc rfl (cc rfl (cc rfl (cc rfl (cc rfl (cc rfl (cc rfl cn))))))) rfl
            · replace h28 := cf hb31 h28
              refine okC_seq ?_
              refine okC_region ?_
              refine okL_step 55 (tB (r29 == 3)) rfl rfl (does_eql rfl rfl) ?_
              refine okL_step 54 (tB (r29 == 3)) rfl rfl (does_assign rfl) ?_
              refine okL_nil ?_
              refine okX_next ?_
              refine okC_cond (b := (r29 == 3)) rfl (fun hb32 => ?_) (fun hb32 => ?_)
              · replace h28 := ct hb32 h28
                refine okC_region ?_
                refine okL_step 9 (tB true) rfl rfl (does_assign rfl) ?_
                refine okL_step 10 (tB true) rfl rfl (does_assign rfl) ?_
                refine okL_nil ?_
                refine okX_block_normal ?_
                exact okX_meet (I := _) (true, true, false, false) (smh h28) (cc rfl (cc rfl (cc rfl (cc rfl (cc rfl (cc rfl (cc rfl cn))))))) rfl
              · replace h28 := cf hb32 h28
                refine okC_seq ?_
                refine okC_region ?_
                refine okL_step 57 (tB (r29 == 4)) rfl rfl (does_eql rfl rfl) ?_
                refine okL_step 56 (tB (r29 == 4)) rfl rfl (does_assign rfl) ?_
                refine okL_nil ?_
                refine okX_next ?_
                refine okC_cond (b := (r29 == 4)) rfl (fun hb33 => ?_) (fun hb33 => ?_)
                · replace h28 := ct hb33 h28
                  refine okC_region ?_
                  refine okL_step 9 (tB true) rfl rfl (does_assign rfl) ?_
                  refine okL_step 10 (tB true) rfl rfl (does_assign rfl) ?_
                  refine okL_step 11 (tB true) rfl rfl (does_assign rfl) ?_
                  refine okL_nil ?_
                  refine okX_block_normal ?_
                  exact okX_meet (I := _) (true, true, true, false) (smh h28) (cc rfl (cc rfl (cc rfl (cc rfl (cc rfl (cc rfl (cc rfl cn))))))) rfl
                · replace h28 := cf hb33 h28
                  refine okC_seq ?_
                  refine okC_region ?_
                  refine okL_step 59 (tB (r29 == 5)) rfl rfl (does_eql rfl rfl) ?_
                  refine okL_step 58 (tB (r29 == 5)) rfl rfl (does_assign rfl) ?_
                  refine okL_nil ?_
                  refine okX_next ?_
                  refine okC_cond (b := (r29 == 5)) rfl (fun hb34 => ?_) (fun hb34 => ?_)
                  · replace h28 := ct hb34 h28
                    refine okC_region ?_
                    refine okL_step 9 (tB true) rfl rfl (does_assign rfl) ?_
                    refine okL_step 12 (tB true) rfl rfl (does_assign rfl) ?_
                    refine okL_nil ?_
                    refine okX_block_normal ?_
                    exact okX_meet (I := _) (true, false, false, true) (smh h28) (cc rfl (cc rfl (cc rfl (cc rfl (cc rfl (cc rfl (cc rfl cn))))))) rfl
                  · replace h28 := cf hb34 h28
                    refine okC_seq ?_
                    refine okC_region ?_
                    refine okL_step 61 (tB (r29 == 7)) rfl rfl (does_eql rfl rfl) ?_
                    refine okL_step 60 (tB (r29 == 7)) rfl rfl (does_assign rfl) ?_
                    refine okL_nil ?_
                    refine okX_next ?_
                    refine okC_cond (b := (r29 == 7)) rfl (fun hb35 => ?_) (fun hb35 => ?_)
                    · replace h28 := ct hb35 h28
                      refine okC_region ?_
                      refine okL_step 9 (tB true) rfl rfl (does_assign rfl) ?_
                      refine okL_step 10 (tB true) rfl rfl (does_assign rfl) ?_
                      refine okL_step 12 (tB true) rfl rfl (does_assign rfl) ?_
                      refine okL_nil ?_
                      refine okX_block_normal ?_
                      exact okX_meet (I := _) (true, true, false, true) (smh h28) (cc rfl (cc rfl (cc rfl (cc rfl (cc rfl (cc rfl (cc rfl cn))))))) rfl
                    · replace h28 := cf hb35 h28
                      refine okC_skip ?_
                      refine okX_block_normal ?_
                      exact okX_meet (I := _) (false, false, false, false) (smh h28) (cc rfl (cc rfl (cc rfl (cc rfl (cc rfl (cc rfl (cc rfl cn))))))) rfl
          · intro s24 hx
            change OkC _ _ _ [(2, (pAt g1 0)), (5, (pAt g3 0)), (6, (Ty.val (.func (.func 126) #[] #[(.pointer (some ⟨g1, 0, none⟩))]))), (9, (tB s24.1)), (10, (tB s24.2.1)), (11, (tB s24.2.2.1)), (12, (tB s24.2.2.2))] (Item.blk g3 46 [(tI a1.Instr.Op), (tI a1.Instr.A), (tI a1.Instr.B), (tI a1.Instr.C), (tI a1.Instr.N)] :: Item.blk g2 48 [(tI a1.Instr.Op), (tI a1.Instr.A), (tI a1.Instr.B), (tI a1.Instr.C), (tI a1.Instr.N), (tL 1 lI a1.Args)] :: Item.blk g1 27 [(tI a0.Params), (tI a0.Regs), (tL 5 Block.ty a0.Blocks)] :: L)
            obtain rfl : s24 = z26 := hx.symm
            replace h := hz27
            refine okC_seq ?_
            refine okC_seq ?_
            refine okC_region ?_
            refine okL_step 62 (tB s24.1) rfl rfl (does_move rfl) ?_
            refine okL_step 63 (tB s24.1) rfl rfl (does_move rfl) ?_
            obtain ⟨z37, h39, hz38⟩ := bs h
            refine okL_meet (X := Bool) 6 (fun x => z37 = x) (fun x : Bool => [(2, (pAt g1 0)), (5, (pAt g3 0)), (6, (Ty.val (.func (.func 126) #[] #[(.pointer (some ⟨g1, 0, none⟩))]))), (9, (tB s24.1)), (10, (tB s24.2.1)), (11, (tB s24.2.2.1)), (12, (tB s24.2.2.2)), (69, (tB x))]) (fun x : Bool => Item.blk g3 46 [(tI a1.Instr.Op), (tI a1.Instr.A), (tI a1.Instr.B), (tI a1.Instr.C), (tI a1.Instr.N)] :: Item.blk g2 48 [(tI a1.Instr.Op), (tI a1.Instr.A), (tI a1.Instr.B), (tI a1.Instr.C), (tI a1.Instr.N), (tL 1 lI a1.Args)] :: Item.blk g1 27 [(tI a0.Params), (tI a0.Regs), (tL 5 Block.ty a0.Blocks)] :: L) _ rfl ?_ ?_
            · refine okL_split s24.1 (fun hb36 => ?_) (fun hb36 => ?_)
              · replace h39 := ct hb36 h39
                refine okL_guard 64 (Ty.val (.func (.func 126) #[] #[(.pointer (some ⟨g1, 0, none⟩))])) 63 s24.1 rfl rfl hb36 rfl rfl (does_move rfl) ?_
                refine okL_guard 65 (pAt g3 1) 63 s24.1 rfl rfl hb36 rfl rfl (does_fieldAddrP 1 Tryd.underlying46 rfl Tryd.sizeOf3 rfl rfl) ?_
                refine okL_guard 66 (tI a1.Instr.A) 63 s24.1 rfl rfl hb36 rfl rfl (does_loadB1 Tryd.isAgg3 rfl 0 rfl rfl) ?_
                obtain ⟨r41, hc42, h39⟩ := bs h39
                refine okL_guard 67 (tB r41) 63 s24.1 rfl rfl hb36 rfl rfl (does_callC (As := [(tI a1.Instr.A)]) (Cs := [(pAt g1 0)]) 2 rfl (c_vcode_validInstr_1 a1.Instr.A a0 g1 r41 hc42) rfl Tryd.call126 rfl rfl rfl) ?_
                refine okL_guard 68 (tB (!r41)) 63 s24.1 rfl rfl hb36 rfl rfl (does_not rfl) ?_
                refine okL_step 69 (tB (!r41)) rfl rfl (does_pick_t s24.1 rfl hb36 rfl) ?_
                refine okL_nil ?_
                exact okX_meet (I := _) (!r41) (smh h39) (cc rfl (cc rfl (cc rfl (cc rfl (cc rfl (cc rfl (cc rfl (cc rfl cn)))))))) rfl
              · replace h39 := cf hb36 h39
                refine okL_skip 64 63 s24.1 rfl rfl hb36 rfl rfl ?_
                refine okL_skip 65 63 s24.1 rfl rfl hb36 rfl rfl ?_
                refine okL_skip 66 63 s24.1 rfl rfl hb36 rfl rfl ?_
                refine okL_skip 67 63 s24.1 rfl rfl hb36 rfl rfl ?_
                refine okL_skip 68 63 s24.1 rfl rfl hb36 rfl rfl ?_
                refine okL_step 69 (tB false) rfl rfl (does_pick_f s24.1 rfl hb36 rfl) ?_
                refine okL_nil ?_
                exact okX_meet (I := _) false (smh h39) (cc rfl (cc rfl (cc rfl (cc rfl (cc rfl (cc rfl (cc rfl (cc rfl cn)))))))) rfl
            · intro x40 hx
              obtain rfl : x40 = z37 := hx.symm
              replace h := hz38
              change OkL _ _ _ _ [(2, (pAt g1 0)), (5, (pAt g3 0)), (6, (Ty.val (.func (.func 126) #[] #[(.pointer (some ⟨g1, 0, none⟩))]))), (9, (tB s24.1)), (10, (tB s24.2.1)), (11, (tB s24.2.2.1)), (12, (tB s24.2.2.2)), (69, (tB x40))] (Item.blk g3 46 [(tI a1.Instr.Op), (tI a1.Instr.A), (tI a1.Instr.B), (tI a1.Instr.C), (tI a1.Instr.N)] :: Item.blk g2 48 [(tI a1.Instr.Op), (tI a1.Instr.A), (tI a1.Instr.B), (tI a1.Instr.C), (tI a1.Instr.N), (tL 1 lI a1.Args)] :: Item.blk g1 27 [(tI a0.Params), (tI a0.Regs), (tL 5 Block.ty a0.Blocks)] :: L)
              refine okL_step 70 (tB x40) rfl rfl (does_move rfl) ?_
              obtain ⟨z44, h46, hz45⟩ := bs h
              refine okL_meet (X := Bool) 9 (fun x => z44 = x) (fun x : Bool => [(2, (pAt g1 0)), (5, (pAt g3 0)), (6, (Ty.val (.func (.func 126) #[] #[(.pointer (some ⟨g1, 0, none⟩))]))), (9, (tB s24.1)), (10, (tB s24.2.1)), (11, (tB s24.2.2.1)), (12, (tB s24.2.2.2)), (79, (tB x))]) (fun x : Bool => Item.blk g3 46 [(tI a1.Instr.Op), (tI a1.Instr.A), (tI a1.Instr.B), (tI a1.Instr.C), (tI a1.Instr.N)] :: Item.blk g2 48 [(tI a1.Instr.Op), (tI a1.Instr.A), (tI a1.Instr.B), (tI a1.Instr.C), (tI a1.Instr.N), (tL 1 lI a1.Args)] :: Item.blk g1 27 [(tI a0.Params), (tI a0.Regs), (tL 5 Block.ty a0.Blocks)] :: L) _ rfl ?_ ?_
              · refine okL_split x40 (fun hb43 => ?_) (fun hb43 => ?_)
                · replace h46 := ct hb43 h46
                  refine okL_skip 71 70 x40 rfl rfl hb43 rfl rfl ?_
                  refine okL_skip 72 70 x40 rfl rfl hb43 rfl rfl ?_
                  refine okL_skipU 73 72 rfl rfl rfl rfl ?_
                  refine okL_skipU 74 72 rfl rfl rfl rfl ?_
                  refine okL_skipU 75 72 rfl rfl rfl rfl ?_
                  refine okL_skipU 76 72 rfl rfl rfl rfl ?_
                  refine okL_skipU 77 72 rfl rfl rfl rfl ?_
                  refine okL_skip 78 70 x40 rfl rfl hb43 rfl rfl ?_
                  refine okL_step 79 (tB true) rfl rfl (does_pick_t x40 rfl hb43 rfl) ?_
                  refine okL_nil ?_
                  exact okX_meet (I := _) true (smh h46) (cc rfl (cc rfl (cc rfl (cc rfl (cc rfl (cc rfl (cc rfl (cc rfl cn)))))))) rfl
                · replace h46 := cf hb43 h46
                  refine okL_guard 71 (tB s24.2.1) 70 x40 rfl rfl hb43 rfl rfl (does_move rfl) ?_
                  refine okL_guard 72 (tB s24.2.1) 70 x40 rfl rfl hb43 rfl rfl (does_move rfl) ?_
                  obtain ⟨z49, h51, hz50⟩ := bs h46
                  refine okL_meet (X := Bool) 6 (fun x => z49 = x) (fun x : Bool => [(2, (pAt g1 0)), (5, (pAt g3 0)), (6, (Ty.val (.func (.func 126) #[] #[(.pointer (some ⟨g1, 0, none⟩))]))), (9, (tB s24.1)), (10, (tB s24.2.1)), (11, (tB s24.2.2.1)), (12, (tB s24.2.2.2)), (70, (tB x40)), (78, (tB x))]) (fun x : Bool => Item.blk g3 46 [(tI a1.Instr.Op), (tI a1.Instr.A), (tI a1.Instr.B), (tI a1.Instr.C), (tI a1.Instr.N)] :: Item.blk g2 48 [(tI a1.Instr.Op), (tI a1.Instr.A), (tI a1.Instr.B), (tI a1.Instr.C), (tI a1.Instr.N), (tL 1 lI a1.Args)] :: Item.blk g1 27 [(tI a0.Params), (tI a0.Regs), (tL 5 Block.ty a0.Blocks)] :: L) _ rfl ?_ ?_
                  · refine okL_split s24.2.1 (fun hb48 => ?_) (fun hb48 => ?_)
                    · replace h51 := ct hb48 h51
                      refine okL_guard 73 (Ty.val (.func (.func 126) #[] #[(.pointer (some ⟨g1, 0, none⟩))])) 72 s24.2.1 rfl rfl hb48 rfl rfl (does_move rfl) ?_
                      refine okL_guard 74 (pAt g3 2) 72 s24.2.1 rfl rfl hb48 rfl rfl (does_fieldAddrP 2 Tryd.underlying46 rfl Tryd.sizeOf3 rfl rfl) ?_
                      refine okL_guard 75 (tI a1.Instr.B) 72 s24.2.1 rfl rfl hb48 rfl rfl (does_loadB1 Tryd.isAgg3 rfl 0 rfl rfl) ?_
                      obtain ⟨r53, hc54, h51⟩ := bs h51
                      refine okL_guard 76 (tB r53) 72 s24.2.1 rfl rfl hb48 rfl rfl (does_callC (As := [(tI a1.Instr.B)]) (Cs := [(pAt g1 0)]) 2 rfl (c_vcode_validInstr_1 a1.Instr.B a0 g1 r53 hc54) rfl Tryd.call126 rfl rfl rfl) ?_
                      refine okL_guard 77 (tB (!r53)) 72 s24.2.1 rfl rfl hb48 rfl rfl (does_not rfl) ?_
                      refine okL_guard 78 (tB (!r53)) 70 x40 rfl rfl hb43 rfl rfl (does_pick_t s24.2.1 rfl hb48 rfl) ?_
                      refine okL_nil ?_
                      exact okX_meet (I := _) (!r53) (smh h51) (cc rfl (cc rfl (cc rfl (cc rfl (cc rfl (cc rfl (cc rfl (cc rfl (cc rfl cn))))))))) rfl
                    · replace h51 := cf hb48 h51
                      refine okL_skip 73 72 s24.2.1 rfl rfl hb48 rfl rfl ?_
                      refine okL_skip 74 72 s24.2.1 rfl rfl hb48 rfl rfl ?_
                      refine okL_skip 75 72 s24.2.1 rfl rfl hb48 rfl rfl ?_
                      refine okL_skip 76 72 s24.2.1 rfl rfl hb48 rfl rfl ?_
                      refine okL_skip 77 72 s24.2.1 rfl rfl hb48 rfl rfl ?_
                      refine okL_guard 78 (tB false) 70 x40 rfl rfl hb43 rfl rfl (does_pick_f s24.2.1 rfl hb48 rfl) ?_
                      refine okL_nil ?_
                      exact okX_meet (I := _) false (smh h51) (cc rfl (cc rfl (cc rfl (cc rfl (cc rfl (cc rfl (cc rfl (cc rfl (cc rfl cn))))))))) rfl
                  · intro x52 hx
                    obtain rfl : x52 = z49 := hx.symm
                    replace h46 := hz50
                    change OkL _ _ _ _ [(2, (pAt g1 0)), (5, (pAt g3 0)), (6, (Ty.val (.func (.func 126) #[] #[(.pointer (some ⟨g1, 0, none⟩))]))), (9, (tB s24.1)), (10, (tB s24.2.1)), (11, (tB s24.2.2.1)), (12, (tB s24.2.2.2)), (70, (tB x40)), (78, (tB x52))] (Item.blk g3 46 [(tI a1.Instr.Op), (tI a1.Instr.A), (tI a1.Instr.B), (tI a1.Instr.C), (tI a1.Instr.N)] :: Item.blk g2 48 [(tI a1.Instr.Op), (tI a1.Instr.A), (tI a1.Instr.B), (tI a1.Instr.C), (tI a1.Instr.N), (tL 1 lI a1.Args)] :: Item.blk g1 27 [(tI a0.Params), (tI a0.Regs), (tL 5 Block.ty a0.Blocks)] :: L)
                    refine okL_step 79 (tB x52) rfl rfl (does_pick_f x40 rfl hb43 rfl) ?_
                    refine okL_nil ?_
                    exact okX_meet (I := _) x52 (smh h46) (cc rfl (cc rfl (cc rfl (cc rfl (cc rfl (cc rfl (cc rfl (cc rfl cn)))))))) rfl
              · intro x47 hx
                obtain rfl : x47 = z44 := hx.symm
                replace h := hz45
                change OkL _ _ _ _ [(2, (pAt g1 0)), (5, (pAt g3 0)), (6, (Ty.val (.func (.func 126) #[] #[(.pointer (some ⟨g1, 0, none⟩))]))), (9, (tB s24.1)), (10, (tB s24.2.1)), (11, (tB s24.2.2.1)), (12, (tB s24.2.2.2)), (79, (tB x47))] (Item.blk g3 46 [(tI a1.Instr.Op), (tI a1.Instr.A), (tI a1.Instr.B), (tI a1.Instr.C), (tI a1.Instr.N)] :: Item.blk g2 48 [(tI a1.Instr.Op), (tI a1.Instr.A), (tI a1.Instr.B), (tI a1.Instr.C), (tI a1.Instr.N), (tL 1 lI a1.Args)] :: Item.blk g1 27 [(tI a0.Params), (tI a0.Regs), (tL 5 Block.ty a0.Blocks)] :: L)
                refine okL_step 80 (tB x47) rfl rfl (does_move rfl) ?_
                obtain ⟨z56, h58, hz57⟩ := bs h
                refine okL_meet (X := Bool) 9 (fun x => z56 = x) (fun x : Bool => [(2, (pAt g1 0)), (5, (pAt g3 0)), (9, (tB s24.1)), (10, (tB s24.2.1)), (11, (tB s24.2.2.1)), (12, (tB s24.2.2.2)), (89, (tB x))]) (fun x : Bool => Item.blk g3 46 [(tI a1.Instr.Op), (tI a1.Instr.A), (tI a1.Instr.B), (tI a1.Instr.C), (tI a1.Instr.N)] :: Item.blk g2 48 [(tI a1.Instr.Op), (tI a1.Instr.A), (tI a1.Instr.B), (tI a1.Instr.C), (tI a1.Instr.N), (tL 1 lI a1.Args)] :: Item.blk g1 27 [(tI a0.Params), (tI a0.Regs), (tL 5 Block.ty a0.Blocks)] :: L) _ rfl ?_ ?_
                · refine okL_split x47 (fun hb55 => ?_) (fun hb55 => ?_)
                  · replace h58 := ct hb55 h58
                    refine okL_skip 81 80 x47 rfl rfl hb55 rfl rfl ?_
                    refine okL_skip 82 80 x47 rfl rfl hb55 rfl rfl ?_
                    refine okL_skipU 83 82 rfl rfl rfl rfl ?_
                    refine okL_skipU 84 82 rfl rfl rfl rfl ?_
                    refine okL_skipU 85 82 rfl rfl rfl rfl ?_
                    refine okL_skipU 86 82 rfl rfl rfl rfl ?_
                    refine okL_skipU 87 82 rfl rfl rfl rfl ?_
                    refine okL_skip 88 80 x47 rfl rfl hb55 rfl rfl ?_
                    refine okL_step 89 (tB true) rfl rfl (does_pick_t x47 rfl hb55 rfl) ?_
                    refine okL_nil ?_
                    exact okX_meet (I := _) true (smh h58) (cc rfl (cc rfl (cc rfl (cc rfl (cc rfl (cc rfl (cc rfl cn))))))) rfl
                  · replace h58 := cf hb55 h58
                    refine okL_guard 81 (tB s24.2.2.1) 80 x47 rfl rfl hb55 rfl rfl (does_move rfl) ?_
                    refine okL_guard 82 (tB s24.2.2.1) 80 x47 rfl rfl hb55 rfl rfl (does_move rfl) ?_
                    obtain ⟨z61, h63, hz62⟩ := bs h58
                    refine okL_meet (X := Bool) 6 (fun x => z61 = x) (fun x : Bool => [(2, (pAt g1 0)), (5, (pAt g3 0)), (9, (tB s24.1)), (10, (tB s24.2.1)), (11, (tB s24.2.2.1)), (12, (tB s24.2.2.2)), (80, (tB x47)), (88, (tB x))]) (fun x : Bool => Item.blk g3 46 [(tI a1.Instr.Op), (tI a1.Instr.A), (tI a1.Instr.B), (tI a1.Instr.C), (tI a1.Instr.N)] :: Item.blk g2 48 [(tI a1.Instr.Op), (tI a1.Instr.A), (tI a1.Instr.B), (tI a1.Instr.C), (tI a1.Instr.N), (tL 1 lI a1.Args)] :: Item.blk g1 27 [(tI a0.Params), (tI a0.Regs), (tL 5 Block.ty a0.Blocks)] :: L) _ rfl ?_ ?_
                    · refine okL_split s24.2.2.1 (fun hb60 => ?_) (fun hb60 => ?_)
                      · replace h63 := ct hb60 h63
                        refine okL_guard 83 (Ty.val (.func (.func 126) #[] #[(.pointer (some ⟨g1, 0, none⟩))])) 82 s24.2.2.1 rfl rfl hb60 rfl rfl (does_move rfl) ?_
                        refine okL_guard 84 (pAt g3 3) 82 s24.2.2.1 rfl rfl hb60 rfl rfl (does_fieldAddrP 3 Tryd.underlying46 rfl Tryd.sizeOf3 rfl rfl) ?_
                        refine okL_guard 85 (tI a1.Instr.C) 82 s24.2.2.1 rfl rfl hb60 rfl rfl (does_loadB1 Tryd.isAgg3 rfl 0 rfl rfl) ?_
                        obtain ⟨r65, hc66, h63⟩ := bs h63
                        refine okL_guard 86 (tB r65) 82 s24.2.2.1 rfl rfl hb60 rfl rfl (does_callC (As := [(tI a1.Instr.C)]) (Cs := [(pAt g1 0)]) 2 rfl (c_vcode_validInstr_1 a1.Instr.C a0 g1 r65 hc66) rfl Tryd.call126 rfl rfl rfl) ?_
                        refine okL_guard 87 (tB (!r65)) 82 s24.2.2.1 rfl rfl hb60 rfl rfl (does_not rfl) ?_
                        refine okL_guard 88 (tB (!r65)) 80 x47 rfl rfl hb55 rfl rfl (does_pick_t s24.2.2.1 rfl hb60 rfl) ?_
                        refine okL_nil ?_
                        exact okX_meet (I := _) (!r65) (smh h63) (cc rfl (cc rfl (cc rfl (cc rfl (cc rfl (cc rfl (cc rfl (cc rfl cn)))))))) rfl
                      · replace h63 := cf hb60 h63
                        refine okL_skip 83 82 s24.2.2.1 rfl rfl hb60 rfl rfl ?_
                        refine okL_skip 84 82 s24.2.2.1 rfl rfl hb60 rfl rfl ?_
                        refine okL_skip 85 82 s24.2.2.1 rfl rfl hb60 rfl rfl ?_
                        refine okL_skip 86 82 s24.2.2.1 rfl rfl hb60 rfl rfl ?_
                        refine okL_skip 87 82 s24.2.2.1 rfl rfl hb60 rfl rfl ?_
                        refine okL_guard 88 (tB false) 80 x47 rfl rfl hb55 rfl rfl (does_pick_f s24.2.2.1 rfl hb60 rfl) ?_
                        refine okL_nil ?_
                        exact okX_meet (I := _) false (smh h63) (cc rfl (cc rfl (cc rfl (cc rfl (cc rfl (cc rfl (cc rfl (cc rfl cn)))))))) rfl
                    · intro x64 hx
                      obtain rfl : x64 = z61 := hx.symm
                      replace h58 := hz62
                      change OkL _ _ _ _ [(2, (pAt g1 0)), (5, (pAt g3 0)), (9, (tB s24.1)), (10, (tB s24.2.1)), (11, (tB s24.2.2.1)), (12, (tB s24.2.2.2)), (80, (tB x47)), (88, (tB x64))] (Item.blk g3 46 [(tI a1.Instr.Op), (tI a1.Instr.A), (tI a1.Instr.B), (tI a1.Instr.C), (tI a1.Instr.N)] :: Item.blk g2 48 [(tI a1.Instr.Op), (tI a1.Instr.A), (tI a1.Instr.B), (tI a1.Instr.C), (tI a1.Instr.N), (tL 1 lI a1.Args)] :: Item.blk g1 27 [(tI a0.Params), (tI a0.Regs), (tL 5 Block.ty a0.Blocks)] :: L)
                      refine okL_step 89 (tB x64) rfl rfl (does_pick_f x47 rfl hb55 rfl) ?_
                      refine okL_nil ?_
                      exact okX_meet (I := _) x64 (smh h58) (cc rfl (cc rfl (cc rfl (cc rfl (cc rfl (cc rfl (cc rfl cn))))))) rfl
                · intro x59 hx
                  obtain rfl : x59 = z56 := hx.symm
                  replace h := hz57
                  change OkL _ _ _ _ [(2, (pAt g1 0)), (5, (pAt g3 0)), (9, (tB s24.1)), (10, (tB s24.2.1)), (11, (tB s24.2.2.1)), (12, (tB s24.2.2.2)), (89, (tB x59))] (Item.blk g3 46 [(tI a1.Instr.Op), (tI a1.Instr.A), (tI a1.Instr.B), (tI a1.Instr.C), (tI a1.Instr.N)] :: Item.blk g2 48 [(tI a1.Instr.Op), (tI a1.Instr.A), (tI a1.Instr.B), (tI a1.Instr.C), (tI a1.Instr.N), (tL 1 lI a1.Args)] :: Item.blk g1 27 [(tI a0.Params), (tI a0.Regs), (tL 5 Block.ty a0.Blocks)] :: L)
                  refine okL_step 90 (tB x59) rfl rfl (does_move rfl) ?_
                  refine okL_meet (X := Bool) 8 (fun x => x = (x59 || ((!s24.1) && (a1.Instr.A != 0)))) (fun x : Bool => [(2, (pAt g1 0)), (5, (pAt g3 0)), (10, (tB s24.2.1)), (11, (tB s24.2.2.1)), (12, (tB s24.2.2.2)), (98, (tB x))]) (fun x : Bool => Item.blk g3 46 [(tI a1.Instr.Op), (tI a1.Instr.A), (tI a1.Instr.B), (tI a1.Instr.C), (tI a1.Instr.N)] :: Item.blk g2 48 [(tI a1.Instr.Op), (tI a1.Instr.A), (tI a1.Instr.B), (tI a1.Instr.C), (tI a1.Instr.N), (tL 1 lI a1.Args)] :: Item.blk g1 27 [(tI a0.Params), (tI a0.Regs), (tL 5 Block.ty a0.Blocks)] :: L) _ rfl ?_ ?_
                  · refine okL_split x59 (fun hb67 => ?_) (fun hb67 => ?_)
                    · refine okL_skip 91 90 x59 rfl rfl hb67 rfl rfl ?_
                      refine okL_skip 92 90 x59 rfl rfl hb67 rfl rfl ?_
                      refine okL_skip 93 90 x59 rfl rfl hb67 rfl rfl ?_
                      refine okL_skipU 94 93 rfl rfl rfl rfl ?_
                      refine okL_skipU 95 93 rfl rfl rfl rfl ?_
                      refine okL_skipU 96 93 rfl rfl rfl rfl ?_
                      refine okL_skip 97 90 x59 rfl rfl hb67 rfl rfl ?_
                      refine okL_step 98 (tB true) rfl rfl (does_pick_t x59 rfl hb67 rfl) ?_
                      refine okL_nil ?_
                      exact okX_meet (I := _) true (or_t hb67) (cc rfl (cc rfl (cc rfl (cc rfl (cc rfl (cc rfl cn)))))) rfl
                    · refine okL_guard 91 (tB s24.1) 90 x59 rfl rfl hb67 rfl rfl (does_move rfl) ?_
                      refine okL_guard 92 (tB (!s24.1)) 90 x59 rfl rfl hb67 rfl rfl (does_not rfl) ?_
                      refine okL_guard 93 (tB (!s24.1)) 90 x59 rfl rfl hb67 rfl rfl (does_move rfl) ?_
                      refine okL_meet (X := Bool) 4 (fun x => x = ((!s24.1) && (a1.Instr.A != 0))) (fun x : Bool => [(2, (pAt g1 0)), (5, (pAt g3 0)), (10, (tB s24.2.1)), (11, (tB s24.2.2.1)), (12, (tB s24.2.2.2)), (90, (tB x59)), (97, (tB x))]) (fun x : Bool => Item.blk g3 46 [(tI a1.Instr.Op), (tI a1.Instr.A), (tI a1.Instr.B), (tI a1.Instr.C), (tI a1.Instr.N)] :: Item.blk g2 48 [(tI a1.Instr.Op), (tI a1.Instr.A), (tI a1.Instr.B), (tI a1.Instr.C), (tI a1.Instr.N), (tL 1 lI a1.Args)] :: Item.blk g1 27 [(tI a0.Params), (tI a0.Regs), (tL 5 Block.ty a0.Blocks)] :: L) _ rfl ?_ ?_
                      · refine okL_split (!s24.1) (fun hb68 => ?_) (fun hb68 => ?_)
                        · refine okL_guard 94 (pAt g3 1) 93 (!s24.1) rfl rfl hb68 rfl rfl (does_fieldAddrP 1 Tryd.underlying46 rfl Tryd.sizeOf3 rfl rfl) ?_
                          refine okL_guard 95 (tI a1.Instr.A) 93 (!s24.1) rfl rfl hb68 rfl rfl (does_loadB1 Tryd.isAgg3 rfl 0 rfl rfl) ?_
                          refine okL_guard 96 (tB (a1.Instr.A != 0)) 93 (!s24.1) rfl rfl hb68 rfl rfl (does_neq rfl rfl) ?_
                          refine okL_guard 97 (tB (a1.Instr.A != 0)) 90 x59 rfl rfl hb67 rfl rfl (does_pick_t (!s24.1) rfl hb68 rfl) ?_
                          refine okL_nil ?_
                          exact okX_meet (I := _) (a1.Instr.A != 0) (and_t hb68) (cc rfl (cc rfl (cc rfl (cc rfl (cc rfl (cc rfl (cc rfl cn))))))) rfl
                        · refine okL_skip 94 93 (!s24.1) rfl rfl hb68 rfl rfl ?_
                          refine okL_skip 95 93 (!s24.1) rfl rfl hb68 rfl rfl ?_
                          refine okL_skip 96 93 (!s24.1) rfl rfl hb68 rfl rfl ?_
                          refine okL_guard 97 (tB false) 90 x59 rfl rfl hb67 rfl rfl (does_pick_f (!s24.1) rfl hb68 rfl) ?_
                          refine okL_nil ?_
                          exact okX_meet (I := _) false (and_f hb68) (cc rfl (cc rfl (cc rfl (cc rfl (cc rfl (cc rfl (cc rfl cn))))))) rfl
                      · intro x69 hx
                        subst hx
                        change OkL _ _ _ _ [(2, (pAt g1 0)), (5, (pAt g3 0)), (10, (tB s24.2.1)), (11, (tB s24.2.2.1)), (12, (tB s24.2.2.2)), (90, (tB x59)), (97, (tB ((!s24.1) && (a1.Instr.A != 0))))] (Item.blk g3 46 [(tI a1.Instr.Op), (tI a1.Instr.A), (tI a1.Instr.B), (tI a1.Instr.C), (tI a1.Instr.N)] :: Item.blk g2 48 [(tI a1.Instr.Op), (tI a1.Instr.A), (tI a1.Instr.B), (tI a1.Instr.C), (tI a1.Instr.N), (tL 1 lI a1.Args)] :: Item.blk g1 27 [(tI a0.Params), (tI a0.Regs), (tL 5 Block.ty a0.Blocks)] :: L)
                        refine okL_step 98 (tB ((!s24.1) && (a1.Instr.A != 0))) rfl rfl (does_pick_f x59 rfl hb67 rfl) ?_
                        refine okL_nil ?_
                        exact okX_meet (I := _) ((!s24.1) && (a1.Instr.A != 0)) (or_f hb67) (cc rfl (cc rfl (cc rfl (cc rfl (cc rfl (cc rfl cn)))))) rfl
                  · intro x101 hx
                    subst hx
                    change OkL _ _ _ _ [(2, (pAt g1 0)), (5, (pAt g3 0)), (10, (tB s24.2.1)), (11, (tB s24.2.2.1)), (12, (tB s24.2.2.2)), (98, (tB (x59 || ((!s24.1) && (a1.Instr.A != 0)))))] (Item.blk g3 46 [(tI a1.Instr.Op), (tI a1.Instr.A), (tI a1.Instr.B), (tI a1.Instr.C), (tI a1.Instr.N)] :: Item.blk g2 48 [(tI a1.Instr.Op), (tI a1.Instr.A), (tI a1.Instr.B), (tI a1.Instr.C), (tI a1.Instr.N), (tL 1 lI a1.Args)] :: Item.blk g1 27 [(tI a0.Params), (tI a0.Regs), (tL 5 Block.ty a0.Blocks)] :: L)
                    refine okL_step 99 (tB (x59 || ((!s24.1) && (a1.Instr.A != 0)))) rfl rfl (does_move rfl) ?_
                    refine okL_meet (X := Bool) 8 (fun x => x = ((x59 || ((!s24.1) && (a1.Instr.A != 0))) || ((!s24.2.1) && (a1.Instr.B != 0)))) (fun x : Bool => [(2, (pAt g1 0)), (5, (pAt g3 0)), (11, (tB s24.2.2.1)), (12, (tB s24.2.2.2)), (107, (tB x))]) (fun x : Bool => Item.blk g3 46 [(tI a1.Instr.Op), (tI a1.Instr.A), (tI a1.Instr.B), (tI a1.Instr.C), (tI a1.Instr.N)] :: Item.blk g2 48 [(tI a1.Instr.Op), (tI a1.Instr.A), (tI a1.Instr.B), (tI a1.Instr.C), (tI a1.Instr.N), (tL 1 lI a1.Args)] :: Item.blk g1 27 [(tI a0.Params), (tI a0.Regs), (tL 5 Block.ty a0.Blocks)] :: L) _ rfl ?_ ?_
                    · refine okL_split (x59 || ((!s24.1) && (a1.Instr.A != 0))) (fun hb70 => ?_) (fun hb70 => ?_)
                      · refine okL_skip 100 99 (x59 || ((!s24.1) && (a1.Instr.A != 0))) rfl rfl hb70 rfl rfl ?_
                        refine okL_skip 101 99 (x59 || ((!s24.1) && (a1.Instr.A != 0))) rfl rfl hb70 rfl rfl ?_
                        refine okL_skip 102 99 (x59 || ((!s24.1) && (a1.Instr.A != 0))) rfl rfl hb70 rfl rfl ?_
                        refine okL_skipU 103 102 rfl rfl rfl rfl ?_
                        refine okL_skipU 104 102 rfl rfl rfl rfl ?_
                        refine okL_skipU 105 102 rfl rfl rfl rfl ?_
                        refine okL_skip 106 99 (x59 || ((!s24.1) && (a1.Instr.A != 0))) rfl rfl hb70 rfl rfl ?_
                        refine okL_step 107 (tB true) rfl rfl (does_pick_t (x59 || ((!s24.1) && (a1.Instr.A != 0))) rfl hb70 rfl) ?_
                        refine okL_nil ?_
                        exact okX_meet (I := _) true (or_t hb70) (cc rfl (cc rfl (cc rfl (cc rfl (cc rfl cn))))) rfl
                      · refine okL_guard 100 (tB s24.2.1) 99 (x59 || ((!s24.1) && (a1.Instr.A != 0))) rfl rfl hb70 rfl rfl (does_move rfl) ?_
                        refine okL_guard 101 (tB (!s24.2.1)) 99 (x59 || ((!s24.1) && (a1.Instr.A != 0))) rfl rfl hb70 rfl rfl (does_not rfl) ?_
                        refine okL_guard 102 (tB (!s24.2.1)) 99 (x59 || ((!s24.1) && (a1.Instr.A != 0))) rfl rfl hb70 rfl rfl (does_move rfl) ?_
                        refine okL_meet (X := Bool) 4 (fun x => x = ((!s24.2.1) && (a1.Instr.B != 0))) (fun x : Bool => [(2, (pAt g1 0)), (5, (pAt g3 0)), (11, (tB s24.2.2.1)), (12, (tB s24.2.2.2)), (99, (tB (x59 || ((!s24.1) && (a1.Instr.A != 0))))), (106, (tB x))]) (fun x : Bool => Item.blk g3 46 [(tI a1.Instr.Op), (tI a1.Instr.A), (tI a1.Instr.B), (tI a1.Instr.C), (tI a1.Instr.N)] :: Item.blk g2 48 [(tI a1.Instr.Op), (tI a1.Instr.A), (tI a1.Instr.B), (tI a1.Instr.C), (tI a1.Instr.N), (tL 1 lI a1.Args)] :: Item.blk g1 27 [(tI a0.Params), (tI a0.Regs), (tL 5 Block.ty a0.Blocks)] :: L) _ rfl ?_ ?_
                        · refine okL_split (!s24.2.1) (fun hb71 => ?_) (fun hb71 => ?_)
                          · refine okL_guard 103 (pAt g3 2) 102 (!s24.2.1) rfl rfl hb71 rfl rfl (does_fieldAddrP 2 Tryd.underlying46 rfl Tryd.sizeOf3 rfl rfl) ?_
                            refine okL_guard 104 (tI a1.Instr.B) 102 (!s24.2.1) rfl rfl hb71 rfl rfl (does_loadB1 Tryd.isAgg3 rfl 0 rfl rfl) ?_
                            refine okL_guard 105 (tB (a1.Instr.B != 0)) 102 (!s24.2.1) rfl rfl hb71 rfl rfl (does_neq rfl rfl) ?_
                            refine okL_guard 106 (tB (a1.Instr.B != 0)) 99 (x59 || ((!s24.1) && (a1.Instr.A != 0))) rfl rfl hb70 rfl rfl (does_pick_t (!s24.2.1) rfl hb71 rfl) ?_
                            refine okL_nil ?_
                            exact okX_meet (I := _) (a1.Instr.B != 0) (and_t hb71) (cc rfl (cc rfl (cc rfl (cc rfl (cc rfl (cc rfl cn)))))) rfl
                          · refine okL_skip 103 102 (!s24.2.1) rfl rfl hb71 rfl rfl ?_
                            refine okL_skip 104 102 (!s24.2.1) rfl rfl hb71 rfl rfl ?_
                            refine okL_skip 105 102 (!s24.2.1) rfl rfl hb71 rfl rfl ?_
                            refine okL_guard 106 (tB false) 99 (x59 || ((!s24.1) && (a1.Instr.A != 0))) rfl rfl hb70 rfl rfl (does_pick_f (!s24.2.1) rfl hb71 rfl) ?_
                            refine okL_nil ?_
                            exact okX_meet (I := _) false (and_f hb71) (cc rfl (cc rfl (cc rfl (cc rfl (cc rfl (cc rfl cn)))))) rfl
                        · intro x72 hx
                          subst hx
                          change OkL _ _ _ _ [(2, (pAt g1 0)), (5, (pAt g3 0)), (11, (tB s24.2.2.1)), (12, (tB s24.2.2.2)), (99, (tB (x59 || ((!s24.1) && (a1.Instr.A != 0))))), (106, (tB ((!s24.2.1) && (a1.Instr.B != 0))))] (Item.blk g3 46 [(tI a1.Instr.Op), (tI a1.Instr.A), (tI a1.Instr.B), (tI a1.Instr.C), (tI a1.Instr.N)] :: Item.blk g2 48 [(tI a1.Instr.Op), (tI a1.Instr.A), (tI a1.Instr.B), (tI a1.Instr.C), (tI a1.Instr.N), (tL 1 lI a1.Args)] :: Item.blk g1 27 [(tI a0.Params), (tI a0.Regs), (tL 5 Block.ty a0.Blocks)] :: L)
                          refine okL_step 107 (tB ((!s24.2.1) && (a1.Instr.B != 0))) rfl rfl (does_pick_f (x59 || ((!s24.1) && (a1.Instr.A != 0))) rfl hb70 rfl) ?_
                          refine okL_nil ?_
                          exact okX_meet (I := _) ((!s24.2.1) && (a1.Instr.B != 0)) (or_f hb70) (cc rfl (cc rfl (cc rfl (cc rfl (cc rfl cn))))) rfl
                    · intro x100 hx
                      subst hx
                      change OkL _ _ _ _ [(2, (pAt g1 0)), (5, (pAt g3 0)), (11, (tB s24.2.2.1)), (12, (tB s24.2.2.2)), (107, (tB ((x59 || ((!s24.1) && (a1.Instr.A != 0))) || ((!s24.2.1) && (a1.Instr.B != 0)))))] (Item.blk g3 46 [(tI a1.Instr.Op), (tI a1.Instr.A), (tI a1.Instr.B), (tI a1.Instr.C), (tI a1.Instr.N)] :: Item.blk g2 48 [(tI a1.Instr.Op), (tI a1.Instr.A), (tI a1.Instr.B), (tI a1.Instr.C), (tI a1.Instr.N), (tL 1 lI a1.Args)] :: Item.blk g1 27 [(tI a0.Params), (tI a0.Regs), (tL 5 Block.ty a0.Blocks)] :: L)
                      refine okL_step 108 (tB ((x59 || ((!s24.1) && (a1.Instr.A != 0))) || ((!s24.2.1) && (a1.Instr.B != 0)))) rfl rfl (does_move rfl) ?_
                      refine okL_meet (X := Bool) 8 (fun x => x = (((x59 || ((!s24.1) && (a1.Instr.A != 0))) || ((!s24.2.1) && (a1.Instr.B != 0))) || ((!s24.2.2.1) && (a1.Instr.C != 0)))) (fun x : Bool => [(2, (pAt g1 0)), (5, (pAt g3 0)), (12, (tB s24.2.2.2)), (116, (tB x))]) (fun x : Bool => Item.blk g3 46 [(tI a1.Instr.Op), (tI a1.Instr.A), (tI a1.Instr.B), (tI a1.Instr.C), (tI a1.Instr.N)] :: Item.blk g2 48 [(tI a1.Instr.Op), (tI a1.Instr.A), (tI a1.Instr.B), (tI a1.Instr.C), (tI a1.Instr.N), (tL 1 lI a1.Args)] :: Item.blk g1 27 [(tI a0.Params), (tI a0.Regs), (tL 5 Block.ty a0.Blocks)] :: L) _ rfl ?_ ?_
                      · refine okL_split ((x59 || ((!s24.1) && (a1.Instr.A != 0))) || ((!s24.2.1) && (a1.Instr.B != 0))) (fun hb73 => ?_) (fun hb73 => ?_)
                        · refine okL_skip 109 108 ((x59 || ((!s24.1) && (a1.Instr.A != 0))) || ((!s24.2.1) && (a1.Instr.B != 0))) rfl rfl hb73 rfl rfl ?_
                          refine okL_skip 110 108 ((x59 || ((!s24.1) && (a1.Instr.A != 0))) || ((!s24.2.1) && (a1.Instr.B != 0))) rfl rfl hb73 rfl rfl ?_
                          refine okL_skip 111 108 ((x59 || ((!s24.1) && (a1.Instr.A != 0))) || ((!s24.2.1) && (a1.Instr.B != 0))) rfl rfl hb73 rfl rfl ?_
                          refine okL_skipU 112 111 rfl rfl rfl rfl ?_
                          refine okL_skipU 113 111 rfl rfl rfl rfl ?_
                          refine okL_skipU 114 111 rfl rfl rfl rfl ?_
                          refine okL_skip 115 108 ((x59 || ((!s24.1) && (a1.Instr.A != 0))) || ((!s24.2.1) && (a1.Instr.B != 0))) rfl rfl hb73 rfl rfl ?_
                          refine okL_step 116 (tB true) rfl rfl (does_pick_t ((x59 || ((!s24.1) && (a1.Instr.A != 0))) || ((!s24.2.1) && (a1.Instr.B != 0))) rfl hb73 rfl) ?_
                          refine okL_nil ?_
                          exact okX_meet (I := _) true (or_t hb73) (cc rfl (cc rfl (cc rfl (cc rfl cn)))) rfl
                        · refine okL_guard 109 (tB s24.2.2.1) 108 ((x59 || ((!s24.1) && (a1.Instr.A != 0))) || ((!s24.2.1) && (a1.Instr.B != 0))) rfl rfl hb73 rfl rfl (does_move rfl) ?_
                          refine okL_guard 110 (tB (!s24.2.2.1)) 108 ((x59 || ((!s24.1) && (a1.Instr.A != 0))) || ((!s24.2.1) && (a1.Instr.B != 0))) rfl rfl hb73 rfl rfl (does_not rfl) ?_
                          refine okL_guard 111 (tB (!s24.2.2.1)) 108 ((x59 || ((!s24.1) && (a1.Instr.A != 0))) || ((!s24.2.1) && (a1.Instr.B != 0))) rfl rfl hb73 rfl rfl (does_move rfl) ?_
                          refine okL_meet (X := Bool) 4 (fun x => x = ((!s24.2.2.1) && (a1.Instr.C != 0))) (fun x : Bool => [(2, (pAt g1 0)), (5, (pAt g3 0)), (12, (tB s24.2.2.2)), (108, (tB ((x59 || ((!s24.1) && (a1.Instr.A != 0))) || ((!s24.2.1) && (a1.Instr.B != 0))))), (115, (tB x))]) (fun x : Bool => Item.blk g3 46 [(tI a1.Instr.Op), (tI a1.Instr.A), (tI a1.Instr.B), (tI a1.Instr.C), (tI a1.Instr.N)] :: Item.blk g2 48 [(tI a1.Instr.Op), (tI a1.Instr.A), (tI a1.Instr.B), (tI a1.Instr.C), (tI a1.Instr.N), (tL 1 lI a1.Args)] :: Item.blk g1 27 [(tI a0.Params), (tI a0.Regs), (tL 5 Block.ty a0.Blocks)] :: L) _ rfl ?_ ?_
                          · refine okL_split (!s24.2.2.1) (fun hb74 => ?_) (fun hb74 => ?_)
                            · refine okL_guard 112 (pAt g3 3) 111 (!s24.2.2.1) rfl rfl hb74 rfl rfl (does_fieldAddrP 3 Tryd.underlying46 rfl Tryd.sizeOf3 rfl rfl) ?_
                              refine okL_guard 113 (tI a1.Instr.C) 111 (!s24.2.2.1) rfl rfl hb74 rfl rfl (does_loadB1 Tryd.isAgg3 rfl 0 rfl rfl) ?_
                              refine okL_guard 114 (tB (a1.Instr.C != 0)) 111 (!s24.2.2.1) rfl rfl hb74 rfl rfl (does_neq rfl rfl) ?_
                              refine okL_guard 115 (tB (a1.Instr.C != 0)) 108 ((x59 || ((!s24.1) && (a1.Instr.A != 0))) || ((!s24.2.1) && (a1.Instr.B != 0))) rfl rfl hb73 rfl rfl (does_pick_t (!s24.2.2.1) rfl hb74 rfl) ?_
                              refine okL_nil ?_
                              exact okX_meet (I := _) (a1.Instr.C != 0) (and_t hb74) (cc rfl (cc rfl (cc rfl (cc rfl (cc rfl cn))))) rfl
                            · refine okL_skip 112 111 (!s24.2.2.1) rfl rfl hb74 rfl rfl ?_
                              refine okL_skip 113 111 (!s24.2.2.1) rfl rfl hb74 rfl rfl ?_
                              refine okL_skip 114 111 (!s24.2.2.1) rfl rfl hb74 rfl rfl ?_
                              refine okL_guard 115 (tB false) 108 ((x59 || ((!s24.1) && (a1.Instr.A != 0))) || ((!s24.2.1) && (a1.Instr.B != 0))) rfl rfl hb73 rfl rfl (does_pick_f (!s24.2.2.1) rfl hb74 rfl) ?_
                              refine okL_nil ?_
                              exact okX_meet (I := _) false (and_f hb74) (cc rfl (cc rfl (cc rfl (cc rfl (cc rfl cn))))) rfl
                          · intro x75 hx
                            subst hx
                            change OkL _ _ _ _ [(2, (pAt g1 0)), (5, (pAt g3 0)), (12, (tB s24.2.2.2)), (108, (tB ((x59 || ((!s24.1) && (a1.Instr.A != 0))) || ((!s24.2.1) && (a1.Instr.B != 0))))), (115, (tB ((!s24.2.2.1) && (a1.Instr.C != 0))))] (Item.blk g3 46 [(tI a1.Instr.Op), (tI a1.Instr.A), (tI a1.Instr.B), (tI a1.Instr.C), (tI a1.Instr.N)] :: Item.blk g2 48 [(tI a1.Instr.Op), (tI a1.Instr.A), (tI a1.Instr.B), (tI a1.Instr.C), (tI a1.Instr.N), (tL 1 lI a1.Args)] :: Item.blk g1 27 [(tI a0.Params), (tI a0.Regs), (tL 5 Block.ty a0.Blocks)] :: L)
                            refine okL_step 116 (tB ((!s24.2.2.1) && (a1.Instr.C != 0))) rfl rfl (does_pick_f ((x59 || ((!s24.1) && (a1.Instr.A != 0))) || ((!s24.2.1) && (a1.Instr.B != 0))) rfl hb73 rfl) ?_
                            refine okL_nil ?_
                            exact okX_meet (I := _) ((!s24.2.2.1) && (a1.Instr.C != 0)) (or_f hb73) (cc rfl (cc rfl (cc rfl (cc rfl cn)))) rfl
                      · intro x99 hx
                        subst hx
                        change OkL _ _ _ _ [(2, (pAt g1 0)), (5, (pAt g3 0)), (12, (tB s24.2.2.2)), (116, (tB (((x59 || ((!s24.1) && (a1.Instr.A != 0))) || ((!s24.2.1) && (a1.Instr.B != 0))) || ((!s24.2.2.1) && (a1.Instr.C != 0)))))] (Item.blk g3 46 [(tI a1.Instr.Op), (tI a1.Instr.A), (tI a1.Instr.B), (tI a1.Instr.C), (tI a1.Instr.N)] :: Item.blk g2 48 [(tI a1.Instr.Op), (tI a1.Instr.A), (tI a1.Instr.B), (tI a1.Instr.C), (tI a1.Instr.N), (tL 1 lI a1.Args)] :: Item.blk g1 27 [(tI a0.Params), (tI a0.Regs), (tL 5 Block.ty a0.Blocks)] :: L)
                        refine okL_step 117 (tB (((x59 || ((!s24.1) && (a1.Instr.A != 0))) || ((!s24.2.1) && (a1.Instr.B != 0))) || ((!s24.2.2.1) && (a1.Instr.C != 0)))) rfl rfl (does_move rfl) ?_
                        refine okL_meet (X := Bool) 8 (fun x => x = ((((x59 || ((!s24.1) && (a1.Instr.A != 0))) || ((!s24.2.1) && (a1.Instr.B != 0))) || ((!s24.2.2.1) && (a1.Instr.C != 0))) || ((!s24.2.2.2) && (a1.Instr.N != 0)))) (fun x : Bool => [(2, (pAt g1 0)), (5, (pAt g3 0)), (125, (tB x))]) (fun x : Bool => Item.blk g3 46 [(tI a1.Instr.Op), (tI a1.Instr.A), (tI a1.Instr.B), (tI a1.Instr.C), (tI a1.Instr.N)] :: Item.blk g2 48 [(tI a1.Instr.Op), (tI a1.Instr.A), (tI a1.Instr.B), (tI a1.Instr.C), (tI a1.Instr.N), (tL 1 lI a1.Args)] :: Item.blk g1 27 [(tI a0.Params), (tI a0.Regs), (tL 5 Block.ty a0.Blocks)] :: L) _ rfl ?_ ?_
                        · refine okL_split (((x59 || ((!s24.1) && (a1.Instr.A != 0))) || ((!s24.2.1) && (a1.Instr.B != 0))) || ((!s24.2.2.1) && (a1.Instr.C != 0))) (fun hb76 => ?_) (fun hb76 => ?_)
                          · refine okL_skip 118 117 (((x59 || ((!s24.1) && (a1.Instr.A != 0))) || ((!s24.2.1) && (a1.Instr.B != 0))) || ((!s24.2.2.1) && (a1.Instr.C != 0))) rfl rfl hb76 rfl rfl ?_
                            refine okL_skip 119 117 (((x59 || ((!s24.1) && (a1.Instr.A != 0))) || ((!s24.2.1) && (a1.Instr.B != 0))) || ((!s24.2.2.1) && (a1.Instr.C != 0))) rfl rfl hb76 rfl rfl ?_
                            refine okL_skip 120 117 (((x59 || ((!s24.1) && (a1.Instr.A != 0))) || ((!s24.2.1) && (a1.Instr.B != 0))) || ((!s24.2.2.1) && (a1.Instr.C != 0))) rfl rfl hb76 rfl rfl ?_
                            refine okL_skipU 121 120 rfl rfl rfl rfl ?_
                            refine okL_skipU 122 120 rfl rfl rfl rfl ?_
                            refine okL_skipU 123 120 rfl rfl rfl rfl ?_
                            refine okL_skip 124 117 (((x59 || ((!s24.1) && (a1.Instr.A != 0))) || ((!s24.2.1) && (a1.Instr.B != 0))) || ((!s24.2.2.1) && (a1.Instr.C != 0))) rfl rfl hb76 rfl rfl ?_
                            refine okL_step 125 (tB true) rfl rfl (does_pick_t (((x59 || ((!s24.1) && (a1.Instr.A != 0))) || ((!s24.2.1) && (a1.Instr.B != 0))) || ((!s24.2.2.1) && (a1.Instr.C != 0))) rfl hb76 rfl) ?_
                            refine okL_nil ?_
                            exact okX_meet (I := _) true (or_t hb76) (cc rfl (cc rfl (cc rfl cn))) rfl
                          · refine okL_guard 118 (tB s24.2.2.2) 117 (((x59 || ((!s24.1) && (a1.Instr.A != 0))) || ((!s24.2.1) && (a1.Instr.B != 0))) || ((!s24.2.2.1) && (a1.Instr.C != 0))) rfl rfl hb76 rfl rfl (does_move rfl) ?_
                            refine okL_guard 119 (tB (!s24.2.2.2)) 117 (((x59 || ((!s24.1) && (a1.Instr.A != 0))) || ((!s24.2.1) && (a1.Instr.B != 0))) || ((!s24.2.2.1) && (a1.Instr.C != 0))) rfl rfl hb76 rfl rfl (does_not rfl) ?_
                            refine okL_guard 120 (tB (!s24.2.2.2)) 117 (((x59 || ((!s24.1) && (a1.Instr.A != 0))) || ((!s24.2.1) && (a1.Instr.B != 0))) || ((!s24.2.2.1) && (a1.Instr.C != 0))) rfl rfl hb76 rfl rfl (does_move rfl) ?_
                            refine okL_meet (X := Bool) 4 (fun x => x = ((!s24.2.2.2) && (a1.Instr.N != 0))) (fun x : Bool => [(2, (pAt g1 0)), (5, (pAt g3 0)), (117, (tB (((x59 || ((!s24.1) && (a1.Instr.A != 0))) || ((!s24.2.1) && (a1.Instr.B != 0))) || ((!s24.2.2.1) && (a1.Instr.C != 0))))), (124, (tB x))]) (fun x : Bool => Item.blk g3 46 [(tI a1.Instr.Op), (tI a1.Instr.A), (tI a1.Instr.B), (tI a1.Instr.C), (tI a1.Instr.N)] :: Item.blk g2 48 [(tI a1.Instr.Op), (tI a1.Instr.A), (tI a1.Instr.B), (tI a1.Instr.C), (tI a1.Instr.N), (tL 1 lI a1.Args)] :: Item.blk g1 27 [(tI a0.Params), (tI a0.Regs), (tL 5 Block.ty a0.Blocks)] :: L) _ rfl ?_ ?_
                            · refine okL_split (!s24.2.2.2) (fun hb77 => ?_) (fun hb77 => ?_)
                              · refine okL_guard 121 (pAt g3 4) 120 (!s24.2.2.2) rfl rfl hb77 rfl rfl (does_fieldAddrP 4 Tryd.underlying46 rfl Tryd.sizeOf2 rfl rfl) ?_
                                refine okL_guard 122 (tI a1.Instr.N) 120 (!s24.2.2.2) rfl rfl hb77 rfl rfl (does_loadB1 Tryd.isAgg2 rfl 0 rfl rfl) ?_
                                refine okL_guard 123 (tB (a1.Instr.N != 0)) 120 (!s24.2.2.2) rfl rfl hb77 rfl rfl (does_neq rfl rfl) ?_
                                refine okL_guard 124 (tB (a1.Instr.N != 0)) 117 (((x59 || ((!s24.1) && (a1.Instr.A != 0))) || ((!s24.2.1) && (a1.Instr.B != 0))) || ((!s24.2.2.1) && (a1.Instr.C != 0))) rfl rfl hb76 rfl rfl (does_pick_t (!s24.2.2.2) rfl hb77 rfl) ?_
                                refine okL_nil ?_
                                exact okX_meet (I := _) (a1.Instr.N != 0) (and_t hb77) (cc rfl (cc rfl (cc rfl (cc rfl cn)))) rfl
                              · refine okL_skip 121 120 (!s24.2.2.2) rfl rfl hb77 rfl rfl ?_
                                refine okL_skip 122 120 (!s24.2.2.2) rfl rfl hb77 rfl rfl ?_
                                refine okL_skip 123 120 (!s24.2.2.2) rfl rfl hb77 rfl rfl ?_
                                refine okL_guard 124 (tB false) 117 (((x59 || ((!s24.1) && (a1.Instr.A != 0))) || ((!s24.2.1) && (a1.Instr.B != 0))) || ((!s24.2.2.1) && (a1.Instr.C != 0))) rfl rfl hb76 rfl rfl (does_pick_f (!s24.2.2.2) rfl hb77 rfl) ?_
                                refine okL_nil ?_
                                exact okX_meet (I := _) false (and_f hb77) (cc rfl (cc rfl (cc rfl (cc rfl cn)))) rfl
                            · intro x78 hx
                              subst hx
                              change OkL _ _ _ _ [(2, (pAt g1 0)), (5, (pAt g3 0)), (117, (tB (((x59 || ((!s24.1) && (a1.Instr.A != 0))) || ((!s24.2.1) && (a1.Instr.B != 0))) || ((!s24.2.2.1) && (a1.Instr.C != 0))))), (124, (tB ((!s24.2.2.2) && (a1.Instr.N != 0))))] (Item.blk g3 46 [(tI a1.Instr.Op), (tI a1.Instr.A), (tI a1.Instr.B), (tI a1.Instr.C), (tI a1.Instr.N)] :: Item.blk g2 48 [(tI a1.Instr.Op), (tI a1.Instr.A), (tI a1.Instr.B), (tI a1.Instr.C), (tI a1.Instr.N), (tL 1 lI a1.Args)] :: Item.blk g1 27 [(tI a0.Params), (tI a0.Regs), (tL 5 Block.ty a0.Blocks)] :: L)
                              refine okL_step 125 (tB ((!s24.2.2.2) && (a1.Instr.N != 0))) rfl rfl (does_pick_f (((x59 || ((!s24.1) && (a1.Instr.A != 0))) || ((!s24.2.1) && (a1.Instr.B != 0))) || ((!s24.2.2.1) && (a1.Instr.C != 0))) rfl hb76 rfl) ?_
                              refine okL_nil ?_
                              exact okX_meet (I := _) ((!s24.2.2.2) && (a1.Instr.N != 0)) (or_f hb76) (cc rfl (cc rfl (cc rfl cn))) rfl
                        · intro x98 hx
                          subst hx
                          change OkL _ _ _ _ [(2, (pAt g1 0)), (5, (pAt g3 0)), (125, (tB ((((x59 || ((!s24.1) && (a1.Instr.A != 0))) || ((!s24.2.1) && (a1.Instr.B != 0))) || ((!s24.2.2.1) && (a1.Instr.C != 0))) || ((!s24.2.2.2) && (a1.Instr.N != 0)))))] (Item.blk g3 46 [(tI a1.Instr.Op), (tI a1.Instr.A), (tI a1.Instr.B), (tI a1.Instr.C), (tI a1.Instr.N)] :: Item.blk g2 48 [(tI a1.Instr.Op), (tI a1.Instr.A), (tI a1.Instr.B), (tI a1.Instr.C), (tI a1.Instr.N), (tL 1 lI a1.Args)] :: Item.blk g1 27 [(tI a0.Params), (tI a0.Regs), (tL 5 Block.ty a0.Blocks)] :: L)
                          refine okL_nil ?_
                          refine okX_next ?_
                          refine okC_cond (b := ((((x59 || ((!s24.1) && (a1.Instr.A != 0))) || ((!s24.2.1) && (a1.Instr.B != 0))) || ((!s24.2.2.1) && (a1.Instr.C != 0))) || ((!s24.2.2.2) && (a1.Instr.N != 0)))) rfl (fun hb79 => ?_) (fun hb79 => ?_)
                          · replace h := ct hb79 h
                            refine okC_seq ?_
                            refine okC_region ?_
                            refine okL_step 4 (tB false) rfl rfl (does_assign rfl) ?_
                            refine okL_nil ?_
                            refine okX_next ?_
                            refine okC_ret ?_
                            refine okX_then_ret ?_
                            obtain rfl := (smh h).symm
                            refine okX_items [Item.blk g3 46 [(tI a1.Instr.Op), (tI a1.Instr.A), (tI a1.Instr.B), (tI a1.Instr.C), (tI a1.Instr.N)], Item.blk g2 48 [(tI a1.Instr.Op), (tI a1.Instr.A), (tI a1.Instr.B), (tI a1.Instr.C), (tI a1.Instr.N), (tL 1 lI a1.Args)], Item.blk g1 27 [(tI a0.Params), (tI a0.Regs), (tL 5 Block.ty a0.Blocks)]] (L) (pm 0 rfl (pm 0 rfl (pm 0 rfl (pr _)))) ?_
                            exact okX_ret1 () Tryd.results103 rfl rfl
                          · replace h := cf hb79 h
                            refine okC_skip ?_
                            refine okX_next ?_
                            refine okC_seq ?_
                            refine okC_seq ?_
                            refine okC_region ?_
                            refine okL_step 126 (pAt g3 0) rfl rfl (does_fieldAddrP 0 Tryd.underlying46 rfl Tryd.sizeOf3 rfl rfl) ?_
                            refine okL_step 127 (tI a1.Instr.Op) rfl rfl (does_loadB1 Tryd.isAgg3 rfl 0 rfl rfl) ?_
                            refine okL_nil ?_
                            refine okX_next ?_
                            refine okC_block ?_
                            refine okC_seq ?_
                            refine okC_region ?_
                            refine okL_step 129 (tB (a1.Instr.Op == 33)) rfl rfl (does_eql rfl rfl) ?_
                            refine okL_step 128 (tB (a1.Instr.Op == 33)) rfl rfl (does_assign rfl) ?_
                            refine okL_nil ?_
                            refine okX_next ?_
                            refine okC_cond (b := (a1.Instr.Op == 33)) rfl (fun hb80 => ?_) (fun hb80 => ?_)
                            · replace h := ct hb80 h
                              refine okC_seq ?_
                              refine okC_region ?_
                              refine okL_step 130 (pAt g3 4) rfl rfl (does_fieldAddrP 4 Tryd.underlying46 rfl Tryd.sizeOf2 rfl rfl) ?_
                              refine okL_step 131 (tI a1.Instr.N) rfl rfl (does_loadB1 Tryd.isAgg2 rfl 0 rfl rfl) ?_
                              refine okL_step 132 (tB (decide (a1.Instr.N ≥ (-4194304)))) rfl rfl (does_geq rfl rfl) ?_
                              refine okL_step 133 (tB (decide (a1.Instr.N ≥ (-4194304)))) rfl rfl (does_move rfl) ?_
                              refine okL_meet (X := Bool) 4 (fun x => x = ((decide (a1.Instr.N ≥ (-4194304))) && (decide (a1.Instr.N < 4194304)))) (fun x : Bool => [(137, (tB x))]) (fun x : Bool => Item.blk g3 46 [(tI a1.Instr.Op), (tI a1.Instr.A), (tI a1.Instr.B), (tI a1.Instr.C), (tI a1.Instr.N)] :: Item.blk g2 48 [(tI a1.Instr.Op), (tI a1.Instr.A), (tI a1.Instr.B), (tI a1.Instr.C), (tI a1.Instr.N), (tL 1 lI a1.Args)] :: Item.blk g1 27 [(tI a0.Params), (tI a0.Regs), (tL 5 Block.ty a0.Blocks)] :: L) _ rfl ?_ ?_
                              · refine okL_split (decide (a1.Instr.N ≥ (-4194304))) (fun hb81 => ?_) (fun hb81 => ?_)
                                · refine okL_guard 134 (pAt g3 4) 133 (decide (a1.Instr.N ≥ (-4194304))) rfl rfl hb81 rfl rfl (does_fieldAddrP 4 Tryd.underlying46 rfl Tryd.sizeOf2 rfl rfl) ?_
                                  refine okL_guard 135 (tI a1.Instr.N) 133 (decide (a1.Instr.N ≥ (-4194304))) rfl rfl hb81 rfl rfl (does_loadB1 Tryd.isAgg2 rfl 0 rfl rfl) ?_
                                  refine okL_guard 136 (tB (decide (a1.Instr.N < 4194304))) 133 (decide (a1.Instr.N ≥ (-4194304))) rfl rfl hb81 rfl rfl (does_lss rfl rfl) ?_
                                  refine okL_step 137 (tB (decide (a1.Instr.N < 4194304))) rfl rfl (does_pick_t (decide (a1.Instr.N ≥ (-4194304))) rfl hb81 rfl) ?_
                                  refine okL_nil ?_
                                  exact okX_meet (I := _) (decide (a1.Instr.N < 4194304)) (and_t hb81) (cc rfl cn) rfl
                                · refine okL_skip 134 133 (decide (a1.Instr.N ≥ (-4194304))) rfl rfl hb81 rfl rfl ?_
                                  refine okL_skip 135 133 (decide (a1.Instr.N ≥ (-4194304))) rfl rfl hb81 rfl rfl ?_
                                  refine okL_skip 136 133 (decide (a1.Instr.N ≥ (-4194304))) rfl rfl hb81 rfl rfl ?_
                                  refine okL_step 137 (tB false) rfl rfl (does_pick_f (decide (a1.Instr.N ≥ (-4194304))) rfl hb81 rfl) ?_
                                  refine okL_nil ?_
                                  exact okX_meet (I := _) false (and_f hb81) (cc rfl cn) rfl
                              · intro x82 hx
                                subst hx
                                change OkL _ _ _ _ [(137, (tB ((decide (a1.Instr.N ≥ (-4194304))) && (decide (a1.Instr.N < 4194304)))))] (Item.blk g3 46 [(tI a1.Instr.Op), (tI a1.Instr.A), (tI a1.Instr.B), (tI a1.Instr.C), (tI a1.Instr.N)] :: Item.blk g2 48 [(tI a1.Instr.Op), (tI a1.Instr.A), (tI a1.Instr.B), (tI a1.Instr.C), (tI a1.Instr.N), (tL 1 lI a1.Args)] :: Item.blk g1 27 [(tI a0.Params), (tI a0.Regs), (tL 5 Block.ty a0.Blocks)] :: L)
                                refine okL_step 4 (tB ((decide (a1.Instr.N ≥ (-4194304))) && (decide (a1.Instr.N < 4194304)))) rfl rfl (does_assign rfl) ?_
                                refine okL_nil ?_
                                refine okX_next ?_
                                refine okC_ret ?_
                                refine okX_block_ret ?_
                                refine okX_then_ret ?_
                                obtain rfl := (smh h).symm
                                refine okX_items [Item.blk g3 46 [(tI a1.Instr.Op), (tI a1.Instr.A), (tI a1.Instr.B), (tI a1.Instr.C), (tI a1.Instr.N)], Item.blk g2 48 [(tI a1.Instr.Op), (tI a1.Instr.A), (tI a1.Instr.B), (tI a1.Instr.C), (tI a1.Instr.N), (tL 1 lI a1.Args)], Item.blk g1 27 [(tI a0.Params), (tI a0.Regs), (tL 5 Block.ty a0.Blocks)]] (L) (pm 0 rfl (pm 0 rfl (pm 0 rfl (pr _)))) ?_
                                exact okX_ret1 () Tryd.results103 rfl rfl
                            · replace h := cf hb80 h
                              refine okC_seq ?_
                              refine okC_region ?_
                              refine okL_step 139 (tB (a1.Instr.Op == 6)) rfl rfl (does_eql rfl rfl) ?_
                              refine okL_step 138 (tB (a1.Instr.Op == 6)) rfl rfl (does_assign rfl) ?_
                              refine okL_nil ?_
                              refine okX_next ?_
                              refine okC_cond (b := (a1.Instr.Op == 6)) rfl (fun hb83 => ?_) (fun hb83 => ?_)
                              · replace h := ct hb83 h
                                refine okC_seq ?_
                                refine okC_region ?_
                                refine okL_step 140 (pAt g3 4) rfl rfl (does_fieldAddrP 4 Tryd.underlying46 rfl Tryd.sizeOf2 rfl rfl) ?_
                                refine okL_step 141 (tI a1.Instr.N) rfl rfl (does_loadB1 Tryd.isAgg2 rfl 0 rfl rfl) ?_
                                refine okL_step 142 (tB (decide (a1.Instr.N ≥ 0))) rfl rfl (does_geq rfl rfl) ?_
                                refine okL_step 143 (tB (decide (a1.Instr.N ≥ 0))) rfl rfl (does_move rfl) ?_
                                refine okL_meet (X := Bool) 4 (fun x => x = ((decide (a1.Instr.N ≥ 0)) && (decide (a1.Instr.N < 8)))) (fun x : Bool => [(147, (tB x))]) (fun x : Bool => Item.blk g3 46 [(tI a1.Instr.Op), (tI a1.Instr.A), (tI a1.Instr.B), (tI a1.Instr.C), (tI a1.Instr.N)] :: Item.blk g2 48 [(tI a1.Instr.Op), (tI a1.Instr.A), (tI a1.Instr.B), (tI a1.Instr.C), (tI a1.Instr.N), (tL 1 lI a1.Args)] :: Item.blk g1 27 [(tI a0.Params), (tI a0.Regs), (tL 5 Block.ty a0.Blocks)] :: L) _ rfl ?_ ?_
                                · refine okL_split (decide (a1.Instr.N ≥ 0)) (fun hb84 => ?_) (fun hb84 => ?_)
                                  · refine okL_guard 144 (pAt g3 4) 143 (decide (a1.Instr.N ≥ 0)) rfl rfl hb84 rfl rfl (does_fieldAddrP 4 Tryd.underlying46 rfl Tryd.sizeOf2 rfl rfl) ?_
                                    refine okL_guard 145 (tI a1.Instr.N) 143 (decide (a1.Instr.N ≥ 0)) rfl rfl hb84 rfl rfl (does_loadB1 Tryd.isAgg2 rfl 0 rfl rfl) ?_
                                    refine okL_guard 146 (tB (decide (a1.Instr.N < 8))) 143 (decide (a1.Instr.N ≥ 0)) rfl rfl hb84 rfl rfl (does_lss rfl rfl) ?_
                                    refine okL_step 147 (tB (decide (a1.Instr.N < 8))) rfl rfl (does_pick_t (decide (a1.Instr.N ≥ 0)) rfl hb84 rfl) ?_
                                    refine okL_nil ?_
                                    exact okX_meet (I := _) (decide (a1.Instr.N < 8)) (and_t hb84) (cc rfl cn) rfl
                                  · refine okL_skip 144 143 (decide (a1.Instr.N ≥ 0)) rfl rfl hb84 rfl rfl ?_
                                    refine okL_skip 145 143 (decide (a1.Instr.N ≥ 0)) rfl rfl hb84 rfl rfl ?_
                                    refine okL_skip 146 143 (decide (a1.Instr.N ≥ 0)) rfl rfl hb84 rfl rfl ?_
                                    refine okL_step 147 (tB false) rfl rfl (does_pick_f (decide (a1.Instr.N ≥ 0)) rfl hb84 rfl) ?_
                                    refine okL_nil ?_
                                    exact okX_meet (I := _) false (and_f hb84) (cc rfl cn) rfl
                                · intro x85 hx
                                  subst hx
                                  change OkL _ _ _ _ [(147, (tB ((decide (a1.Instr.N ≥ 0)) && (decide (a1.Instr.N < 8)))))] (Item.blk g3 46 [(tI a1.Instr.Op), (tI a1.Instr.A), (tI a1.Instr.B), (tI a1.Instr.C), (tI a1.Instr.N)] :: Item.blk g2 48 [(tI a1.Instr.Op), (tI a1.Instr.A), (tI a1.Instr.B), (tI a1.Instr.C), (tI a1.Instr.N), (tL 1 lI a1.Args)] :: Item.blk g1 27 [(tI a0.Params), (tI a0.Regs), (tL 5 Block.ty a0.Blocks)] :: L)
                                  refine okL_step 4 (tB ((decide (a1.Instr.N ≥ 0)) && (decide (a1.Instr.N < 8)))) rfl rfl (does_assign rfl) ?_
                                  refine okL_nil ?_
                                  refine okX_next ?_
                                  refine okC_ret ?_
                                  refine okX_block_ret ?_
                                  refine okX_then_ret ?_
                                  obtain rfl := (smh h).symm
                                  refine okX_items [Item.blk g3 46 [(tI a1.Instr.Op), (tI a1.Instr.A), (tI a1.Instr.B), (tI a1.Instr.C), (tI a1.Instr.N)], Item.blk g2 48 [(tI a1.Instr.Op), (tI a1.Instr.A), (tI a1.Instr.B), (tI a1.Instr.C), (tI a1.Instr.N), (tL 1 lI a1.Args)], Item.blk g1 27 [(tI a0.Params), (tI a0.Regs), (tL 5 Block.ty a0.Blocks)]] (L) (pm 0 rfl (pm 0 rfl (pm 0 rfl (pr _)))) ?_
                                  exact okX_ret1 () Tryd.results103 rfl rfl
                              · replace h := cf hb83 h
                                obtain ⟨z88, h90, hz89⟩ := bs h
                                refine okC_meet (X := Bool) (fun x => z88 = x) (fun x : Bool => [(2, (pAt g1 0)), (5, (pAt g3 0)), (127, (tI a1.Instr.Op)), (148, (tB x))]) (fun x : Bool => Item.blk g3 46 [(tI a1.Instr.Op), (tI a1.Instr.A), (tI a1.Instr.B), (tI a1.Instr.C), (tI a1.Instr.N)] :: Item.blk g2 48 [(tI a1.Instr.Op), (tI a1.Instr.A), (tI a1.Instr.B), (tI a1.Instr.C), (tI a1.Instr.N), (tL 1 lI a1.Args)] :: Item.blk g1 27 [(tI a0.Params), (tI a0.Regs), (tL 5 Block.ty a0.Blocks)] :: L) ?_ ?_
                                · refine okC_seq ?_
                                  refine okC_region ?_
                                  refine okL_step 149 (tB (a1.Instr.Op == 34)) rfl rfl (does_eql rfl rfl) ?_
                                  refine okL_step 148 (tB (a1.Instr.Op == 34)) rfl rfl (does_assign rfl) ?_
                                  refine okL_nil ?_
                                  refine okX_next ?_
                                  refine okC_cond (b := (a1.Instr.Op == 34)) rfl (fun hb91 => ?_) (fun hb91 => ?_)
                                  · replace h90 := ct hb91 h90
                                    refine okC_skip ?_
                                    exact okX_meet (I := _) (a1.Instr.Op == 34) (smh h90) (cc rfl (cc rfl (cc rfl (cc rfl cn)))) rfl
                                  · replace h90 := cf hb91 h90
                                    refine okC_region ?_
                                    refine okL_step 150 (tB (a1.Instr.Op == 35)) rfl rfl (does_eql rfl rfl) ?_
                                    refine okL_step 148 (tB (a1.Instr.Op == 35)) rfl rfl (does_assign rfl) ?_
                                    refine okL_nil ?_
                                    exact okX_meet (I := _) (a1.Instr.Op == 35) (smh h90) (cc rfl (cc rfl (cc rfl (cc rfl cn)))) rfl
                                · intro s86 hx
                                  change OkC _ _ _ [(2, (pAt g1 0)), (5, (pAt g3 0)), (127, (tI a1.Instr.Op)), (148, (tB s86))] (Item.blk g3 46 [(tI a1.Instr.Op), (tI a1.Instr.A), (tI a1.Instr.B), (tI a1.Instr.C), (tI a1.Instr.N)] :: Item.blk g2 48 [(tI a1.Instr.Op), (tI a1.Instr.A), (tI a1.Instr.B), (tI a1.Instr.C), (tI a1.Instr.N), (tL 1 lI a1.Args)] :: Item.blk g1 27 [(tI a0.Params), (tI a0.Regs), (tL 5 Block.ty a0.Blocks)] :: L)
                                  obtain rfl : s86 = z88 := hx.symm
                                  replace h := hz89
                                  refine okC_cond (b := s86) rfl (fun hb92 => ?_) (fun hb92 => ?_)
                                  · replace h := ct hb92 h
                                    refine okC_seq ?_
                                    refine okC_region ?_
                                    refine okL_step 151 (pAt g3 4) rfl rfl (does_fieldAddrP 4 Tryd.underlying46 rfl Tryd.sizeOf2 rfl rfl) ?_
                                    refine okL_step 152 (tI a1.Instr.N) rfl rfl (does_loadB1 Tryd.isAgg2 rfl 0 rfl rfl) ?_
                                    refine okL_step 153 (tB (decide (a1.Instr.N ≥ 0))) rfl rfl (does_geq rfl rfl) ?_
                                    refine okL_step 154 (tB (decide (a1.Instr.N ≥ 0))) rfl rfl (does_move rfl) ?_
                                    refine okL_meet (X := Bool) 4 (fun x => x = ((decide (a1.Instr.N ≥ 0)) && (decide (a1.Instr.N < 4)))) (fun x : Bool => [(158, (tB x))]) (fun x : Bool => Item.blk g3 46 [(tI a1.Instr.Op), (tI a1.Instr.A), (tI a1.Instr.B), (tI a1.Instr.C), (tI a1.Instr.N)] :: Item.blk g2 48 [(tI a1.Instr.Op), (tI a1.Instr.A), (tI a1.Instr.B), (tI a1.Instr.C), (tI a1.Instr.N), (tL 1 lI a1.Args)] :: Item.blk g1 27 [(tI a0.Params), (tI a0.Regs), (tL 5 Block.ty a0.Blocks)] :: L) _ rfl ?_ ?_
                                    · refine okL_split (decide (a1.Instr.N ≥ 0)) (fun hb93 => ?_) (fun hb93 => ?_)
                                      · refine okL_guard 155 (pAt g3 4) 154 (decide (a1.Instr.N ≥ 0)) rfl rfl hb93 rfl rfl (does_fieldAddrP 4 Tryd.underlying46 rfl Tryd.sizeOf2 rfl rfl) ?_
                                        refine okL_guard 156 (tI a1.Instr.N) 154 (decide (a1.Instr.N ≥ 0)) rfl rfl hb93 rfl rfl (does_loadB1 Tryd.isAgg2 rfl 0 rfl rfl) ?_
                                        refine okL_guard 157 (tB (decide (a1.Instr.N < 4))) 154 (decide (a1.Instr.N ≥ 0)) rfl rfl hb93 rfl rfl (does_lss rfl rfl) ?_
                                        refine okL_step 158 (tB (decide (a1.Instr.N < 4))) rfl rfl (does_pick_t (decide (a1.Instr.N ≥ 0)) rfl hb93 rfl) ?_
                                        refine okL_nil ?_
                                        exact okX_meet (I := _) (decide (a1.Instr.N < 4)) (and_t hb93) (cc rfl cn) rfl
                                      · refine okL_skip 155 154 (decide (a1.Instr.N ≥ 0)) rfl rfl hb93 rfl rfl ?_
                                        refine okL_skip 156 154 (decide (a1.Instr.N ≥ 0)) rfl rfl hb93 rfl rfl ?_
                                        refine okL_skip 157 154 (decide (a1.Instr.N ≥ 0)) rfl rfl hb93 rfl rfl ?_
                                        refine okL_step 158 (tB false) rfl rfl (does_pick_f (decide (a1.Instr.N ≥ 0)) rfl hb93 rfl) ?_
                                        refine okL_nil ?_
                                        exact okX_meet (I := _) false (and_f hb93) (cc rfl cn) rfl
                                    · intro x94 hx
                                      subst hx
                                      change OkL _ _ _ _ [(158, (tB ((decide (a1.Instr.N ≥ 0)) && (decide (a1.Instr.N < 4)))))] (Item.blk g3 46 [(tI a1.Instr.Op), (tI a1.Instr.A), (tI a1.Instr.B), (tI a1.Instr.C), (tI a1.Instr.N)] :: Item.blk g2 48 [(tI a1.Instr.Op), (tI a1.Instr.A), (tI a1.Instr.B), (tI a1.Instr.C), (tI a1.Instr.N), (tL 1 lI a1.Args)] :: Item.blk g1 27 [(tI a0.Params), (tI a0.Regs), (tL 5 Block.ty a0.Blocks)] :: L)
                                      refine okL_step 4 (tB ((decide (a1.Instr.N ≥ 0)) && (decide (a1.Instr.N < 4)))) rfl rfl (does_assign rfl) ?_
                                      refine okL_nil ?_
                                      refine okX_next ?_
                                      refine okC_ret ?_
                                      refine okX_block_ret ?_
                                      refine okX_then_ret ?_
                                      obtain rfl := (smh h).symm
                                      refine okX_items [Item.blk g3 46 [(tI a1.Instr.Op), (tI a1.Instr.A), (tI a1.Instr.B), (tI a1.Instr.C), (tI a1.Instr.N)], Item.blk g2 48 [(tI a1.Instr.Op), (tI a1.Instr.A), (tI a1.Instr.B), (tI a1.Instr.C), (tI a1.Instr.N), (tL 1 lI a1.Args)], Item.blk g1 27 [(tI a0.Params), (tI a0.Regs), (tL 5 Block.ty a0.Blocks)]] (L) (pm 0 rfl (pm 0 rfl (pm 0 rfl (pr _)))) ?_
                                      exact okX_ret1 () Tryd.results103 rfl rfl
                                  · replace h := cf hb92 h
                                    refine okC_seq ?_
                                    refine okC_region ?_
                                    refine okL_step 160 (tB (a1.Instr.Op == 38)) rfl rfl (does_eql rfl rfl) ?_
                                    refine okL_step 159 (tB (a1.Instr.Op == 38)) rfl rfl (does_assign rfl) ?_
                                    refine okL_nil ?_
                                    refine okX_next ?_
                                    refine okC_cond (b := (a1.Instr.Op == 38)) rfl (fun hb95 => ?_) (fun hb95 => ?_)
                                    · replace h := ct hb95 h
                                      refine okC_seq ?_
                                      refine okC_region ?_
                                      refine okL_step 161 (pAt g3 4) rfl rfl (does_fieldAddrP 4 Tryd.underlying46 rfl Tryd.sizeOf2 rfl rfl) ?_
                                      refine okL_step 162 (tI a1.Instr.N) rfl rfl (does_loadB1 Tryd.isAgg2 rfl 0 rfl rfl) ?_
                                      refine okL_step 163 (tB (decide (a1.Instr.N ≥ 0))) rfl rfl (does_geq rfl rfl) ?_
                                      refine okL_step 164 (tB (decide (a1.Instr.N ≥ 0))) rfl rfl (does_move rfl) ?_
                                      refine okL_meet (X := Bool) 6 (fun x => x = ((decide (a1.Instr.N ≥ 0)) && (decide (a1.Instr.N < a0.Params)))) (fun x : Bool => [(170, (tB x))]) (fun x : Bool => Item.blk g3 46 [(tI a1.Instr.Op), (tI a1.Instr.A), (tI a1.Instr.B), (tI a1.Instr.C), (tI a1.Instr.N)] :: Item.blk g2 48 [(tI a1.Instr.Op), (tI a1.Instr.A), (tI a1.Instr.B), (tI a1.Instr.C), (tI a1.Instr.N), (tL 1 lI a1.Args)] :: Item.blk g1 27 [(tI a0.Params), (tI a0.Regs), (tL 5 Block.ty a0.Blocks)] :: L) _ rfl ?_ ?_
                                      · refine okL_split (decide (a1.Instr.N ≥ 0)) (fun hb96 => ?_) (fun hb96 => ?_)
                                        · refine okL_guard 165 (pAt g3 4) 164 (decide (a1.Instr.N ≥ 0)) rfl rfl hb96 rfl rfl (does_fieldAddrP 4 Tryd.underlying46 rfl Tryd.sizeOf2 rfl rfl) ?_
                                          refine okL_guard 166 (tI a1.Instr.N) 164 (decide (a1.Instr.N ≥ 0)) rfl rfl hb96 rfl rfl (does_loadB1 Tryd.isAgg2 rfl 0 rfl rfl) ?_
                                          refine okL_guard 167 (pAt g1 0) 164 (decide (a1.Instr.N ≥ 0)) rfl rfl hb96 rfl rfl (does_fieldAddrP 0 Tryd.underlying27 rfl Tryd.sizeOf3 rfl rfl) ?_
                                          refine okL_guard 168 (tI a0.Params) 164 (decide (a1.Instr.N ≥ 0)) rfl rfl hb96 rfl rfl (does_loadB1 Tryd.isAgg3 rfl 2 rfl rfl) ?_
                                          refine okL_guard 169 (tB (decide (a1.Instr.N < a0.Params))) 164 (decide (a1.Instr.N ≥ 0)) rfl rfl hb96 rfl rfl (does_lss rfl rfl) ?_
                                          refine okL_step 170 (tB (decide (a1.Instr.N < a0.Params))) rfl rfl (does_pick_t (decide (a1.Instr.N ≥ 0)) rfl hb96 rfl) ?_
                                          refine okL_nil ?_
                                          exact okX_meet (I := _) (decide (a1.Instr.N < a0.Params)) (and_t hb96) (cc rfl cn) rfl
                                        · refine okL_skip 165 164 (decide (a1.Instr.N ≥ 0)) rfl rfl hb96 rfl rfl ?_
                                          refine okL_skip 166 164 (decide (a1.Instr.N ≥ 0)) rfl rfl hb96 rfl rfl ?_
                                          refine okL_skip 167 164 (decide (a1.Instr.N ≥ 0)) rfl rfl hb96 rfl rfl ?_
                                          refine okL_skip 168 164 (decide (a1.Instr.N ≥ 0)) rfl rfl hb96 rfl rfl ?_
                                          refine okL_skip 169 164 (decide (a1.Instr.N ≥ 0)) rfl rfl hb96 rfl rfl ?_
                                          refine okL_step 170 (tB false) rfl rfl (does_pick_f (decide (a1.Instr.N ≥ 0)) rfl hb96 rfl) ?_
                                          refine okL_nil ?_
                                          exact okX_meet (I := _) false (and_f hb96) (cc rfl cn) rfl
                                      · intro x97 hx
                                        subst hx
                                        change OkL _ _ _ _ [(170, (tB ((decide (a1.Instr.N ≥ 0)) && (decide (a1.Instr.N < a0.Params)))))] (Item.blk g3 46 [(tI a1.Instr.Op), (tI a1.Instr.A), (tI a1.Instr.B), (tI a1.Instr.C), (tI a1.Instr.N)] :: Item.blk g2 48 [(tI a1.Instr.Op), (tI a1.Instr.A), (tI a1.Instr.B), (tI a1.Instr.C), (tI a1.Instr.N), (tL 1 lI a1.Args)] :: Item.blk g1 27 [(tI a0.Params), (tI a0.Regs), (tL 5 Block.ty a0.Blocks)] :: L)
                                        refine okL_step 4 (tB ((decide (a1.Instr.N ≥ 0)) && (decide (a1.Instr.N < a0.Params)))) rfl rfl (does_assign rfl) ?_
                                        refine okL_nil ?_
                                        refine okX_next ?_
                                        refine okC_ret ?_
                                        refine okX_block_ret ?_
                                        refine okX_then_ret ?_
                                        obtain rfl := (smh h).symm
                                        refine okX_items [Item.blk g3 46 [(tI a1.Instr.Op), (tI a1.Instr.A), (tI a1.Instr.B), (tI a1.Instr.C), (tI a1.Instr.N)], Item.blk g2 48 [(tI a1.Instr.Op), (tI a1.Instr.A), (tI a1.Instr.B), (tI a1.Instr.C), (tI a1.Instr.N), (tL 1 lI a1.Args)], Item.blk g1 27 [(tI a0.Params), (tI a0.Regs), (tL 5 Block.ty a0.Blocks)]] (L) (pm 0 rfl (pm 0 rfl (pm 0 rfl (pr _)))) ?_
                                        exact okX_ret1 () Tryd.results103 rfl rfl
                                    · replace h := cf hb95 h
                                      refine okC_skip ?_
                                      refine okX_block_normal ?_
                                      refine okX_next ?_
                                      refine okC_seq ?_
                                      refine okC_region ?_
                                      refine okL_step 4 (tB true) rfl rfl (does_assign rfl) ?_
                                      refine okL_nil ?_
                                      refine okX_next ?_
                                      refine okC_ret ?_
                                      obtain rfl := (smh h).symm
                                      refine okX_items [Item.blk g3 46 [(tI a1.Instr.Op), (tI a1.Instr.A), (tI a1.Instr.B), (tI a1.Instr.C), (tI a1.Instr.N)], Item.blk g2 48 [(tI a1.Instr.Op), (tI a1.Instr.A), (tI a1.Instr.B), (tI a1.Instr.C), (tI a1.Instr.N), (tL 1 lI a1.Args)], Item.blk g1 27 [(tI a0.Params), (tI a0.Regs), (tL 5 Block.ty a0.Blocks)]] (L) (pm 0 rfl (pm 0 rfl (pm 0 rfl (pr _)))) ?_
                                      exact okX_ret1 () Tryd.results103 rfl rfl

def vcode_Valid_l2 (K : Nat) (a0 : VFunc) (y16 : Block) : Nat → Int → Option (Unit ⊕ (Unit ⊕ Bool))
  | 0, _ => none
  | k + 1, s24 => (cnd (decide (s24 < ((y16.Instrs).length : Int))) (Option.bind (idx y16.Instrs s24) (fun y27 => (Option.bind (vcode_validInstr K a0 y27) (fun r30 => (cnd (!r30) (out (out (some false))) (vcode_Valid_l2 K a0 y16 k (w64 (s24 + 1)))))))) (inn ()))

def vcode_Valid_l1 (K : Nat) (a0 : VFunc) : Nat → Int → Option (Unit ⊕ Bool)
  | 0, _ => none
  | k + 1, s13 => (cnd (decide (s13 < ((a0.Blocks).length : Int))) (Option.bind (idx a0.Blocks s13) (fun y16 => (sq (vcode_Valid_l2 K a0 y16 K 0) (fun s19 => (Option.bind (cnd (y16.End == 1) (Option.bind (vcode_Valid_1 y16.Target a0) (fun r39 => (some ((r39 && (y16.Reg == 0)) && (y16.Else == 0))))) (cnd (y16.End == 2) (Option.bind (vcode_Valid_1 y16.Target a0) (fun r46 => (Option.bind (cnd r46 (Option.bind (vcode_Valid_1 y16.Else a0) (fun r53 => (some r53))) (some false)) (fun x52 => (Option.bind (cnd x52 (Option.bind (vcode_Valid_2 y16.Reg a0) (fun r60 => (some r60))) (some false)) (fun x59 => (some x59))))))) (cnd (y16.End == 3) (Option.bind (vcode_Valid_2 y16.Reg a0) (fun r63 => (some ((r63 && (y16.Target == 0)) && (y16.Else == 0))))) (cnd (y16.End == 4) (some ((((decide (y16.Target ≥ 1)) && (decide (y16.Target < 33554432))) && (y16.Reg == 0)) && (y16.Else == 0))) (some false))))) (fun s33 => (cnd (!s33) (out (some false)) (vcode_Valid_l1 K a0 k (w64 (s13 + 1)))))))))) (inn ()))

def vcode_Valid (K : Nat) (a0 : VFunc) : Option Bool :=
  (cnd ((((((decide (a0.Params < 0)) || (decide (a0.Params > 6))) || (decide (a0.Regs < 0))) || (decide (a0.Regs > 3000))) || (decide (((a0.Blocks).length : Int) < 1))) || (decide (((a0.Blocks).length : Int) > 1000))) (some false) (sq (vcode_Valid_l1 K a0 K 0) (fun s8 => (some true))))

theorem c_vcode_Valid (K : Nat) (a0 : VFunc) (r : Bool) (h : vcode_Valid K a0 = some r) : CallP Tryd.prog glob 63 [(Ty.agg [(tI a0.Params), (tI a0.Regs), (tL 5 Block.ty a0.Blocks)])] (tB r) := by
  refine call_of_code Tryd.func63 rfl Tryd.ntmps63 rfl (fun L w => ?_)
  change OkC _ _ _ [(0, (Ty.agg [(tI a0.Params), (tI a0.Regs), (tL 5 Block.ty a0.Blocks)]))] (L)
  unfold vcode_Valid at h
  refine okC_seq ?_
  refine okC_region ?_
  refine okL_stepO 1 rfl rfl (doesO_box [(tI a0.Params), (tI a0.Regs), (tL 5 Block.ty a0.Blocks)] rfl (part_agg _) (fun g1 => ?_))
  refine okL_step 2 (tB false) rfl rfl (does_assign rfl) ?_
  refine okL_nil ?_
  refine okX_next ?_
  refine okC_seq ?_
  refine okC_seq ?_
  refine okC_region ?_
  refine okL_step 10 (pAt g1 0) rfl rfl (does_fieldAddrP 0 Tryd.underlying27 rfl Tryd.sizeOf3 rfl rfl) ?_
  refine okL_step 11 (tI a0.Params) rfl rfl (does_loadB1 Tryd.isAgg3 rfl 0 rfl rfl) ?_
  refine okL_step 12 (tB (decide (a0.Params < 0))) rfl rfl (does_lss rfl rfl) ?_
  refine okL_step 13 (tB (decide (a0.Params < 0))) rfl rfl (does_move rfl) ?_
  refine okL_meet (X := Bool) 4 (fun x => x = ((decide (a0.Params < 0)) || (decide (a0.Params > 6)))) (fun x : Bool => [(1, (pAt g1 0)), (17, (tB x))]) (fun x : Bool => Item.blk g1 27 [(tI a0.Params), (tI a0.Regs), (tL 5 Block.ty a0.Blocks)] :: L) _ rfl ?_ ?_
  · refine okL_split (decide (a0.Params < 0)) (fun hb2 => ?_) (fun hb2 => ?_)
    · refine okL_skip 14 13 (decide (a0.Params < 0)) rfl rfl hb2 rfl rfl ?_
      refine okL_skip 15 13 (decide (a0.Params < 0)) rfl rfl hb2 rfl rfl ?_
      refine okL_skip 16 13 (decide (a0.Params < 0)) rfl rfl hb2 rfl rfl ?_
      refine okL_step 17 (tB true) rfl rfl (does_pick_t (decide (a0.Params < 0)) rfl hb2 rfl) ?_
      refine okL_nil ?_
      exact okX_meet (I := _) true (or_t hb2) (cc rfl (cc rfl cn)) rfl
    · refine okL_guard 14 (pAt g1 0) 13 (decide (a0.Params < 0)) rfl rfl hb2 rfl rfl (does_fieldAddrP 0 Tryd.underlying27 rfl Tryd.sizeOf3 rfl rfl) ?_
      refine okL_guard 15 (tI a0.Params) 13 (decide (a0.Params < 0)) rfl rfl hb2 rfl rfl (does_loadB1 Tryd.isAgg3 rfl 0 rfl rfl) ?_
      refine okL_guard 16 (tB (decide (a0.Params > 6))) 13 (decide (a0.Params < 0)) rfl rfl hb2 rfl rfl (does_gtr rfl rfl) ?_
      refine okL_step 17 (tB (decide (a0.Params > 6))) rfl rfl (does_pick_f (decide (a0.Params < 0)) rfl hb2 rfl) ?_
      refine okL_nil ?_
      exact okX_meet (I := _) (decide (a0.Params > 6)) (or_f hb2) (cc rfl (cc rfl cn)) rfl
  · intro x81 hx
    subst hx
    change OkL _ _ _ _ [(1, (pAt g1 0)), (17, (tB ((decide (a0.Params < 0)) || (decide (a0.Params > 6)))))] (Item.blk g1 27 [(tI a0.Params), (tI a0.Regs), (tL 5 Block.ty a0.Blocks)] :: L)
    refine okL_step 18 (tB ((decide (a0.Params < 0)) || (decide (a0.Params > 6)))) rfl rfl (does_move rfl) ?_
    refine okL_meet (X := Bool) 4 (fun x => x = (((decide (a0.Params < 0)) || (decide (a0.Params > 6))) || (decide (a0.Regs < 0)))) (fun x : Bool => [(1, (pAt g1 0)), (22, (tB x))]) (fun x : Bool => Item.blk g1 27 [(tI a0.Params), (tI a0.Regs), (tL 5 Block.ty a0.Blocks)] :: L) _ rfl ?_ ?_
    · refine okL_split ((decide (a0.Params < 0)) || (decide (a0.Params > 6))) (fun hb3 => ?_) (fun hb3 => ?_)
      · refine okL_skip 19 18 ((decide (a0.Params < 0)) || (decide (a0.Params > 6))) rfl rfl hb3 rfl rfl ?_
        refine okL_skip 20 18 ((decide (a0.Params < 0)) || (decide (a0.Params > 6))) rfl rfl hb3 rfl rfl ?_
        refine okL_skip 21 18 ((decide (a0.Params < 0)) || (decide (a0.Params > 6))) rfl rfl hb3 rfl rfl ?_
        refine okL_step 22 (tB true) rfl rfl (does_pick_t ((decide (a0.Params < 0)) || (decide (a0.Params > 6))) rfl hb3 rfl) ?_
        refine okL_nil ?_
        exact okX_meet (I := _) true (or_t hb3) (cc rfl (cc rfl cn)) rfl
      · refine okL_guard 19 (pAt g1 1) 18 ((decide (a0.Params < 0)) || (decide (a0.Params > 6))) rfl rfl hb3 rfl rfl (does_fieldAddrP 1 Tryd.underlying27 rfl Tryd.sizeOf3 rfl rfl) ?_
        refine okL_guard 20 (tI a0.Regs) 18 ((decide (a0.Params < 0)) || (decide (a0.Params > 6))) rfl rfl hb3 rfl rfl (does_loadB1 Tryd.isAgg3 rfl 0 rfl rfl) ?_
        refine okL_guard 21 (tB (decide (a0.Regs < 0))) 18 ((decide (a0.Params < 0)) || (decide (a0.Params > 6))) rfl rfl hb3 rfl rfl (does_lss rfl rfl) ?_
        refine okL_step 22 (tB (decide (a0.Regs < 0))) rfl rfl (does_pick_f ((decide (a0.Params < 0)) || (decide (a0.Params > 6))) rfl hb3 rfl) ?_
        refine okL_nil ?_
        exact okX_meet (I := _) (decide (a0.Regs < 0)) (or_f hb3) (cc rfl (cc rfl cn)) rfl
    · intro x80 hx
      subst hx
      change OkL _ _ _ _ [(1, (pAt g1 0)), (22, (tB (((decide (a0.Params < 0)) || (decide (a0.Params > 6))) || (decide (a0.Regs < 0)))))] (Item.blk g1 27 [(tI a0.Params), (tI a0.Regs), (tL 5 Block.ty a0.Blocks)] :: L)
      refine okL_step 23 (tB (((decide (a0.Params < 0)) || (decide (a0.Params > 6))) || (decide (a0.Regs < 0)))) rfl rfl (does_move rfl) ?_
      refine okL_meet (X := Bool) 4 (fun x => x = ((((decide (a0.Params < 0)) || (decide (a0.Params > 6))) || (decide (a0.Regs < 0))) || (decide (a0.Regs > 3000)))) (fun x : Bool => [(1, (pAt g1 0)), (27, (tB x))]) (fun x : Bool => Item.blk g1 27 [(tI a0.Params), (tI a0.Regs), (tL 5 Block.ty a0.Blocks)] :: L) _ rfl ?_ ?_
      · refine okL_split (((decide (a0.Params < 0)) || (decide (a0.Params > 6))) || (decide (a0.Regs < 0))) (fun hb4 => ?_) (fun hb4 => ?_)
        · refine okL_skip 24 23 (((decide (a0.Params < 0)) || (decide (a0.Params > 6))) || (decide (a0.Regs < 0))) rfl rfl hb4 rfl rfl ?_
          refine okL_skip 25 23 (((decide (a0.Params < 0)) || (decide (a0.Params > 6))) || (decide (a0.Regs < 0))) rfl rfl hb4 rfl rfl ?_
          refine okL_skip 26 23 (((decide (a0.Params < 0)) || (decide (a0.Params > 6))) || (decide (a0.Regs < 0))) rfl rfl hb4 rfl rfl ?_
          refine okL_step 27 (tB true) rfl rfl (does_pick_t (((decide (a0.Params < 0)) || (decide (a0.Params > 6))) || (decide (a0.Regs < 0))) rfl hb4 rfl) ?_
          refine okL_nil ?_
          exact okX_meet (I := _) true (or_t hb4) (cc rfl (cc rfl cn)) rfl
        · refine okL_guard 24 (pAt g1 1) 23 (((decide (a0.Params < 0)) || (decide (a0.Params > 6))) || (decide (a0.Regs < 0))) rfl rfl hb4 rfl rfl (does_fieldAddrP 1 Tryd.underlying27 rfl Tryd.sizeOf3 rfl rfl) ?_
          refine okL_guard 25 (tI a0.Regs) 23 (((decide (a0.Params < 0)) || (decide (a0.Params > 6))) || (decide (a0.Regs < 0))) rfl rfl hb4 rfl rfl (does_loadB1 Tryd.isAgg3 rfl 0 rfl rfl) ?_
          refine okL_guard 26 (tB (decide (a0.Regs > 3000))) 23 (((decide (a0.Params < 0)) || (decide (a0.Params > 6))) || (decide (a0.Regs < 0))) rfl rfl hb4 rfl rfl (does_gtr rfl rfl) ?_
          refine okL_step 27 (tB (decide (a0.Regs > 3000))) rfl rfl (does_pick_f (((decide (a0.Params < 0)) || (decide (a0.Params > 6))) || (decide (a0.Regs < 0))) rfl hb4 rfl) ?_
          refine okL_nil ?_
          exact okX_meet (I := _) (decide (a0.Regs > 3000)) (or_f hb4) (cc rfl (cc rfl cn)) rfl
      · intro x79 hx
        subst hx
        change OkL _ _ _ _ [(1, (pAt g1 0)), (27, (tB ((((decide (a0.Params < 0)) || (decide (a0.Params > 6))) || (decide (a0.Regs < 0))) || (decide (a0.Regs > 3000)))))] (Item.blk g1 27 [(tI a0.Params), (tI a0.Regs), (tL 5 Block.ty a0.Blocks)] :: L)
        refine okL_step 28 (tB ((((decide (a0.Params < 0)) || (decide (a0.Params > 6))) || (decide (a0.Regs < 0))) || (decide (a0.Regs > 3000)))) rfl rfl (does_move rfl) ?_
        refine okL_meet (X := Bool) 5 (fun x => x = (((((decide (a0.Params < 0)) || (decide (a0.Params > 6))) || (decide (a0.Regs < 0))) || (decide (a0.Regs > 3000))) || (decide (((a0.Blocks).length : Int) < 1)))) (fun x : Bool => [(1, (pAt g1 0)), (33, (tB x))]) (fun x : Bool => Item.blk g1 27 [(tI a0.Params), (tI a0.Regs), (tL 5 Block.ty a0.Blocks)] :: L) _ rfl ?_ ?_
        · refine okL_split ((((decide (a0.Params < 0)) || (decide (a0.Params > 6))) || (decide (a0.Regs < 0))) || (decide (a0.Regs > 3000))) (fun hb5 => ?_) (fun hb5 => ?_)
          · refine okL_skip 29 28 ((((decide (a0.Params < 0)) || (decide (a0.Params > 6))) || (decide (a0.Regs < 0))) || (decide (a0.Regs > 3000))) rfl rfl hb5 rfl rfl ?_
            refine okL_skip 30 28 ((((decide (a0.Params < 0)) || (decide (a0.Params > 6))) || (decide (a0.Regs < 0))) || (decide (a0.Regs > 3000))) rfl rfl hb5 rfl rfl ?_
            refine okL_skip 31 28 ((((decide (a0.Params < 0)) || (decide (a0.Params > 6))) || (decide (a0.Regs < 0))) || (decide (a0.Regs > 3000))) rfl rfl hb5 rfl rfl ?_
            refine okL_skip 32 28 ((((decide (a0.Params < 0)) || (decide (a0.Params > 6))) || (decide (a0.Regs < 0))) || (decide (a0.Regs > 3000))) rfl rfl hb5 rfl rfl ?_
            refine okL_step 33 (tB true) rfl rfl (does_pick_t ((((decide (a0.Params < 0)) || (decide (a0.Params > 6))) || (decide (a0.Regs < 0))) || (decide (a0.Regs > 3000))) rfl hb5 rfl) ?_
            refine okL_nil ?_
            exact okX_meet (I := _) true (or_t hb5) (cc rfl (cc rfl cn)) rfl
          · refine okL_guard 29 (pAt g1 2) 28 ((((decide (a0.Params < 0)) || (decide (a0.Params > 6))) || (decide (a0.Regs < 0))) || (decide (a0.Regs > 3000))) rfl rfl hb5 rfl rfl (does_fieldAddrP 2 Tryd.underlying27 rfl Tryd.sizeOf25 rfl rfl) ?_
            refine okL_guard 30 (tL 5 Block.ty a0.Blocks) 28 ((((decide (a0.Params < 0)) || (decide (a0.Params > 6))) || (decide (a0.Regs < 0))) || (decide (a0.Regs > 3000))) rfl rfl hb5 rfl rfl (does_loadB1 Tryd.isAgg25 rfl 0 rfl rfl) ?_
            refine okL_guard 31 (tI ((a0.Blocks).length : Int)) 28 ((((decide (a0.Params < 0)) || (decide (a0.Params > 6))) || (decide (a0.Regs < 0))) || (decide (a0.Regs > 3000))) rfl rfl hb5 rfl rfl (does_len (sz := 5) (f := Block.ty) (l := a0.Blocks) rfl Tryd.underlying25 rfl) ?_
            refine okL_guard 32 (tB (decide (((a0.Blocks).length : Int) < 1))) 28 ((((decide (a0.Params < 0)) || (decide (a0.Params > 6))) || (decide (a0.Regs < 0))) || (decide (a0.Regs > 3000))) rfl rfl hb5 rfl rfl (does_lss rfl rfl) ?_
            refine okL_step 33 (tB (decide (((a0.Blocks).length : Int) < 1))) rfl rfl (does_pick_f ((((decide (a0.Params < 0)) || (decide (a0.Params > 6))) || (decide (a0.Regs < 0))) || (decide (a0.Regs > 3000))) rfl hb5 rfl) ?_
            refine okL_nil ?_
            exact okX_meet (I := _) (decide (((a0.Blocks).length : Int) < 1)) (or_f hb5) (cc rfl (cc rfl cn)) rfl
        · intro x78 hx
          subst hx
          change OkL _ _ _ _ [(1, (pAt g1 0)), (33, (tB (((((decide (a0.Params < 0)) || (decide (a0.Params > 6))) || (decide (a0.Regs < 0))) || (decide (a0.Regs > 3000))) || (decide (((a0.Blocks).length : Int) < 1)))))] (Item.blk g1 27 [(tI a0.Params), (tI a0.Regs), (tL 5 Block.ty a0.Blocks)] :: L)
          refine okL_step 34 (tB (((((decide (a0.Params < 0)) || (decide (a0.Params > 6))) || (decide (a0.Regs < 0))) || (decide (a0.Regs > 3000))) || (decide (((a0.Blocks).length : Int) < 1)))) rfl rfl (does_move rfl) ?_
          refine okL_meet (X := Bool) 5 (fun x => x = ((((((decide (a0.Params < 0)) || (decide (a0.Params > 6))) || (decide (a0.Regs < 0))) || (decide (a0.Regs > 3000))) || (decide (((a0.Blocks).length : Int) < 1))) || (decide (((a0.Blocks).length : Int) > 1000)))) (fun x : Bool => [(1, (pAt g1 0)), (39, (tB x))]) (fun x : Bool => Item.blk g1 27 [(tI a0.Params), (tI a0.Regs), (tL 5 Block.ty a0.Blocks)] :: L) _ rfl ?_ ?_
          · refine okL_split (((((decide (a0.Params < 0)) || (decide (a0.Params > 6))) || (decide (a0.Regs < 0))) || (decide (a0.Regs > 3000))) || (decide (((a0.Blocks).length : Int) < 1))) (fun hb6 => ?_) (fun hb6 => ?_)
            · refine okL_skip 35 34 (((((decide (a0.Params < 0)) || (decide (a0.Params > 6))) || (decide (a0.Regs < 0))) || (decide (a0.Regs > 3000))) || (decide (((a0.Blocks).length : Int) < 1))) rfl rfl hb6 rfl rfl ?_
              refine okL_skip 36 34 (((((decide (a0.Params < 0)) || (decide (a0.Params > 6))) || (decide (a0.Regs < 0))) || (decide (a0.Regs > 3000))) || (decide (((a0.Blocks).length : Int) < 1))) rfl rfl hb6 rfl rfl ?_
              refine okL_skip 37 34 (((((decide (a0.Params < 0)) || (decide (a0.Params > 6))) || (decide (a0.Regs < 0))) || (decide (a0.Regs > 3000))) || (decide (((a0.Blocks).length : Int) < 1))) rfl rfl hb6 rfl rfl ?_
              refine okL_skip 38 34 (((((decide (a0.Params < 0)) || (decide (a0.Params > 6))) || (decide (a0.Regs < 0))) || (decide (a0.Regs > 3000))) || (decide (((a0.Blocks).length : Int) < 1))) rfl rfl hb6 rfl rfl ?_
              refine okL_step 39 (tB true) rfl rfl (does_pick_t (((((decide (a0.Params < 0)) || (decide (a0.Params > 6))) || (decide (a0.Regs < 0))) || (decide (a0.Regs > 3000))) || (decide (((a0.Blocks).length : Int) < 1))) rfl hb6 rfl) ?_
              refine okL_nil ?_
              exact okX_meet (I := _) true (or_t hb6) (cc rfl (cc rfl cn)) rfl
            · refine okL_guard 35 (pAt g1 2) 34 (((((decide (a0.Params < 0)) || (decide (a0.Params > 6))) || (decide (a0.Regs < 0))) || (decide (a0.Regs > 3000))) || (decide (((a0.Blocks).length : Int) < 1))) rfl rfl hb6 rfl rfl (does_fieldAddrP 2 Tryd.underlying27 rfl Tryd.sizeOf25 rfl rfl) ?_
              refine okL_guard 36 (tL 5 Block.ty a0.Blocks) 34 (((((decide (a0.Params < 0)) || (decide (a0.Params > 6))) || (decide (a0.Regs < 0))) || (decide (a0.Regs > 3000))) || (decide (((a0.Blocks).length : Int) < 1))) rfl rfl hb6 rfl rfl (does_loadB1 Tryd.isAgg25 rfl 0 rfl rfl) ?_
              refine okL_guard 37 (tI ((a0.Blocks).length : Int)) 34 (((((decide (a0.Params < 0)) || (decide (a0.Params > 6))) || (decide (a0.Regs < 0))) || (decide (a0.Regs > 3000))) || (decide (((a0.Blocks).length : Int) < 1))) rfl rfl hb6 rfl rfl (does_len (sz := 5) (f := Block.ty) (l := a0.Blocks) rfl Tryd.underlying25 rfl) ?_
              refine okL_guard 38 (tB (decide (((a0.Blocks).length : Int) > 1000))) 34 (((((decide (a0.Params < 0)) || (decide (a0.Params > 6))) || (decide (a0.Regs < 0))) || (decide (a0.Regs > 3000))) || (decide (((a0.Blocks).length : Int) < 1))) rfl rfl hb6 rfl rfl (does_gtr rfl rfl) ?_
              refine okL_step 39 (tB (decide (((a0.Blocks).length : Int) > 1000))) rfl rfl (does_pick_f (((((decide (a0.Params < 0)) || (decide (a0.Params > 6))) || (decide (a0.Regs < 0))) || (decide (a0.Regs > 3000))) || (decide (((a0.Blocks).length : Int) < 1))) rfl hb6 rfl) ?_
              refine okL_nil ?_
              exact okX_meet (I := _) (decide (((a0.Blocks).length : Int) > 1000)) (or_f hb6) (cc rfl (cc rfl cn)) rfl
          · intro x77 hx
            subst hx
            change OkL _ _ _ _ [(1, (pAt g1 0)), (39, (tB ((((((decide (a0.Params < 0)) || (decide (a0.Params > 6))) || (decide (a0.Regs < 0))) || (decide (a0.Regs > 3000))) || (decide (((a0.Blocks).length : Int) < 1))) || (decide (((a0.Blocks).length : Int) > 1000)))))] (Item.blk g1 27 [(tI a0.Params), (tI a0.Regs), (tL 5 Block.ty a0.Blocks)] :: L)
            refine okL_nil ?_
            refine okX_next ?_
            refine okC_cond (b := ((((((decide (a0.Params < 0)) || (decide (a0.Params > 6))) || (decide (a0.Regs < 0))) || (decide (a0.Regs > 3000))) || (decide (((a0.Blocks).length : Int) < 1))) || (decide (((a0.Blocks).length : Int) > 1000)))) rfl (fun hb7 => ?_) (fun hb7 => ?_)
            · replace h := ct hb7 h
              refine okC_seq ?_
              refine okC_region ?_
              refine okL_step 2 (tB false) rfl rfl (does_assign rfl) ?_
              refine okL_nil ?_
              refine okX_next ?_
              refine okC_ret ?_
              refine okX_then_ret ?_
              obtain rfl := (smh h).symm
              refine okX_items [Item.blk g1 27 [(tI a0.Params), (tI a0.Regs), (tL 5 Block.ty a0.Blocks)]] (L) (pm 0 rfl (pr _)) ?_
              exact okX_ret1 () Tryd.results63 rfl rfl
            · replace h := cf hb7 h
              refine okC_skip ?_
              refine okX_next ?_
              refine okC_seq ?_
              refine okC_region ?_
              refine okL_step 40 (Ty.val (.func (.func 101) #[] #[(.pointer (some ⟨g1, 0, none⟩))])) rfl rfl (does_makeFunc (vs := [(.pointer (some ⟨g1, 0, none⟩))]) rfl) ?_
              refine okL_step 3 (Ty.val (.func (.func 101) #[] #[(.pointer (some ⟨g1, 0, none⟩))])) rfl rfl (does_assign rfl) ?_
              refine okL_nil ?_
              refine okX_next ?_
              refine okC_seq ?_
              refine okC_region ?_
              refine okL_step 41 (Ty.val (.func (.func 102) #[] #[(.pointer (some ⟨g1, 0, none⟩))])) rfl rfl (does_makeFunc (vs := [(.pointer (some ⟨g1, 0, none⟩))]) rfl) ?_
              refine okL_step 4 (Ty.val (.func (.func 102) #[] #[(.pointer (some ⟨g1, 0, none⟩))])) rfl rfl (does_assign rfl) ?_
              refine okL_nil ?_
              refine okX_next ?_
              refine okC_seq ?_
              refine okC_seq ?_
              refine okC_region ?_
              refine okL_step 42 (pAt g1 2) rfl rfl (does_fieldAddrP 2 Tryd.underlying27 rfl Tryd.sizeOf25 rfl rfl) ?_
              refine okL_step 43 (tL 5 Block.ty a0.Blocks) rfl rfl (does_loadB1 Tryd.isAgg25 rfl 0 rfl rfl) ?_
              refine okL_step 44 (tI ((a0.Blocks).length : Int)) rfl rfl (does_len (sz := 5) (f := Block.ty) (l := a0.Blocks) rfl Tryd.underlying25 rfl) ?_
              refine okL_step 45 (tI 0) rfl rfl (does_move rfl) ?_
              refine okL_nil ?_
              refine okX_next ?_
              obtain ⟨z10, h12, hz11⟩ := sqs h
              refine okC_meetE (X := Unit) (fun x => z10 = .inl x) (fun x : Unit => []) (fun x : Unit => Item.blk g1 27 [(tI a0.Params), (tI a0.Regs), (tL 5 Block.ty a0.Blocks)] :: L) ?_ ?_
              · refine okC_block ?_
                refine okC_loop (X := Int) (fun k x => vcode_Valid_l1 K a0 k x = some z10) (fun x : Int => [(1, (pAt g1 0)), (3, (Ty.val (.func (.func 101) #[] #[(.pointer (some ⟨g1, 0, none⟩))]))), (4, (Ty.val (.func (.func 102) #[] #[(.pointer (some ⟨g1, 0, none⟩))]))), (43, (tL 5 Block.ty a0.Blocks)), (44, (tI ((a0.Blocks).length : Int))), (45, (tI x))]) (fun x : Int => Item.blk g1 27 [(tI a0.Params), (tI a0.Regs), (tL 5 Block.ty a0.Blocks)] :: L) K 0 h12 (cc rfl (cc rfl (cc rfl (cc rfl (cc rfl (cc rfl cn)))))) rfl (fun k s13 hI => ?_)
                change OkC _ _ _ [(1, (pAt g1 0)), (3, (Ty.val (.func (.func 101) #[] #[(.pointer (some ⟨g1, 0, none⟩))]))), (4, (Ty.val (.func (.func 102) #[] #[(.pointer (some ⟨g1, 0, none⟩))]))), (43, (tL 5 Block.ty a0.Blocks)), (44, (tI ((a0.Blocks).length : Int))), (45, (tI s13))] (Item.blk g1 27 [(tI a0.Params), (tI a0.Regs), (tL 5 Block.ty a0.Blocks)] :: L)
                cases k with
                | zero => exact (nz hI).elim
                | succ k =>
                  have h : vcode_Valid_l1 K a0 (k + 1) s13 = some z10 := hI
                  rw [vcode_Valid_l1.eq_2] at h
                  refine okC_seq ?_
                  refine okC_region ?_
                  refine okL_step 46 (tB (decide (s13 < ((a0.Blocks).length : Int)))) rfl rfl (does_lss rfl rfl) ?_
                  refine okL_nil ?_
                  refine okX_next ?_
                  refine okC_seq ?_
                  refine okC_cond (b := (decide (s13 < ((a0.Blocks).length : Int)))) rfl (fun hb15 => ?_) (fun hb15 => ?_)
                  · replace h := ct hb15 h
                    refine okC_skip ?_
                    refine okX_next ?_
                    refine okC_seq ?_
                    refine okC_block ?_
                    refine okC_seq ?_
                    refine okC_region ?_
                    obtain ⟨y16, hi17, h⟩ := bs h
                    refine okL_step 47 (Ty.ptr [(tL 6 VInstr.ty y16.Instrs), (tI y16.End), (tI y16.Reg), (tI y16.Target), (tI y16.Else)]) rfl rfl (does_index (sz := 5) (f := Block.ty) (l := a0.Blocks) (n := s13) y16 Tryd.underlying25 Tryd.sizeOf43 hi17 rfl rfl) ?_
                    refine okL_step 48 (Ty.agg [(tL 6 VInstr.ty y16.Instrs), (tI y16.End), (tI y16.Reg), (tI y16.Target), (tI y16.Else)]) rfl rfl (does_loadA [(tL 6 VInstr.ty y16.Instrs), (tI y16.End), (tI y16.Reg), (tI y16.Target), (tI y16.Else)] Tryd.isAgg43 Tryd.sizeOf43 rfl rfl rfl) ?_
                    refine okL_stepO 6 rfl rfl (doesO_alloc [(Ty.val (.slice none 0 0)), (tI 0), (tI 0), (tI 0), (tI 0)] Tryd.zeroValue43 (part_of (sub_agg [(.slice none 0 0), (.int .i64 0), (.int .i64 0), (.int .i64 0), (.int .i64 0)] rfl) (part_agg _)) (fun g18 => ?_))
                    refine okL_stepU rfl (doesO_storeB (ps := [(tL 6 VInstr.ty y16.Instrs), (tI y16.End), (tI y16.Reg), (tI y16.Target), (tI y16.Else)]) 0 [(tL 6 VInstr.ty y16.Instrs), (tI y16.End), (tI y16.Reg), (tI y16.Target), (tI y16.Else)] (Item.blk g18 43 [(tL 6 VInstr.ty y16.Instrs), (tI y16.End), (tI y16.Reg), (tI y16.Target), (tI y16.Else)] :: Item.blk g1 27 [(tI a0.Params), (tI a0.Regs), (tL 5 Block.ty a0.Blocks)] :: L) rfl rfl (part_agg _) Tryd.sizeOf43 rfl rfl rfl rfl ?_)
                    refine okL_nil ?_
                    refine okX_next ?_
                    refine okC_seq ?_
                    refine okC_seq ?_
                    refine okC_region ?_
                    refine okL_step 49 (pAt g18 0) rfl rfl (does_fieldAddrP 0 Tryd.underlying43 rfl Tryd.sizeOf41 rfl rfl) ?_
                    refine okL_step 50 (tL 6 VInstr.ty y16.Instrs) rfl rfl (does_loadB1 Tryd.isAgg41 rfl 0 rfl rfl) ?_
                    refine okL_step 51 (tI ((y16.Instrs).length : Int)) rfl rfl (does_len (sz := 6) (f := VInstr.ty) (l := y16.Instrs) rfl Tryd.underlying41 rfl) ?_
                    refine okL_step 52 (tI 0) rfl rfl (does_move rfl) ?_
                    refine okL_nil ?_
                    refine okX_next ?_
                    obtain ⟨z21, h23, hz22⟩ := sqs h
                    refine okC_meetE (X := Unit) (fun x => z21 = .inl x) (fun x : Unit => [(1, (pAt g1 0)), (3, (Ty.val (.func (.func 101) #[] #[(.pointer (some ⟨g1, 0, none⟩))]))), (4, (Ty.val (.func (.func 102) #[] #[(.pointer (some ⟨g1, 0, none⟩))]))), (6, (pAt g18 0)), (43, (tL 5 Block.ty a0.Blocks)), (44, (tI ((a0.Blocks).length : Int))), (45, (tI s13))]) (fun x : Unit => Item.blk g18 43 [(tL 6 VInstr.ty y16.Instrs), (tI y16.End), (tI y16.Reg), (tI y16.Target), (tI y16.Else)] :: Item.blk g1 27 [(tI a0.Params), (tI a0.Regs), (tL 5 Block.ty a0.Blocks)] :: L) ?_ ?_
                    · refine okC_block ?_
                      refine okC_loop (X := Int) (fun k x => vcode_Valid_l2 K a0 y16 k x = some z21) (fun x : Int => [(1, (pAt g1 0)), (3, (Ty.val (.func (.func 101) #[] #[(.pointer (some ⟨g1, 0, none⟩))]))), (4, (Ty.val (.func (.func 102) #[] #[(.pointer (some ⟨g1, 0, none⟩))]))), (6, (pAt g18 0)), (43, (tL 5 Block.ty a0.Blocks)), (44, (tI ((a0.Blocks).length : Int))), (45, (tI s13)), (50, (tL 6 VInstr.ty y16.Instrs)), (51, (tI ((y16.Instrs).length : Int))), (52, (tI x))]) (fun x : Int => Item.blk g18 43 [(tL 6 VInstr.ty y16.Instrs), (tI y16.End), (tI y16.Reg), (tI y16.Target), (tI y16.Else)] :: Item.blk g1 27 [(tI a0.Params), (tI a0.Regs), (tL 5 Block.ty a0.Blocks)] :: L) K 0 h23 (cc rfl (cc rfl (cc rfl (cc rfl (cc rfl (cc rfl (cc rfl (cc rfl (cc rfl (cc rfl cn)))))))))) rfl (fun k s24 hI => ?_)
                      change OkC _ _ _ [(1, (pAt g1 0)), (3, (Ty.val (.func (.func 101) #[] #[(.pointer (some ⟨g1, 0, none⟩))]))), (4, (Ty.val (.func (.func 102) #[] #[(.pointer (some ⟨g1, 0, none⟩))]))), (6, (pAt g18 0)), (43, (tL 5 Block.ty a0.Blocks)), (44, (tI ((a0.Blocks).length : Int))), (45, (tI s13)), (50, (tL 6 VInstr.ty y16.Instrs)), (51, (tI ((y16.Instrs).length : Int))), (52, (tI s24))] (Item.blk g18 43 [(tL 6 VInstr.ty y16.Instrs), (tI y16.End), (tI y16.Reg), (tI y16.Target), (tI y16.Else)] :: Item.blk g1 27 [(tI a0.Params), (tI a0.Regs), (tL 5 Block.ty a0.Blocks)] :: L)
                      cases k with
                      | zero => exact (nz hI).elim
                      | succ k =>
                        have h : vcode_Valid_l2 K a0 y16 (k + 1) s24 = some z21 := hI
                        rw [vcode_Valid_l2.eq_2] at h
                        refine okC_seq ?_
                        refine okC_region ?_
                        refine okL_step 53 (tB (decide (s24 < ((y16.Instrs).length : Int)))) rfl rfl (does_lss rfl rfl) ?_
                        refine okL_nil ?_
                        refine okX_next ?_
                        refine okC_seq ?_
                        refine okC_cond (b := (decide (s24 < ((y16.Instrs).length : Int)))) rfl (fun hb26 => ?_) (fun hb26 => ?_)
                        · replace h := ct hb26 h
                          refine okC_skip ?_
                          refine okX_next ?_
                          refine okC_seq ?_
                          refine okC_block ?_
                          refine okC_seq ?_
                          refine okC_region ?_
                          obtain ⟨y27, hi28, h⟩ := bs h
                          refine okL_step 54 (Ty.ptr [(tI y27.Instr.Op), (tI y27.Instr.A), (tI y27.Instr.B), (tI y27.Instr.C), (tI y27.Instr.N), (tL 1 lI y27.Args)]) rfl rfl (does_index (sz := 6) (f := VInstr.ty) (l := y16.Instrs) (n := s24) y27 Tryd.underlying41 Tryd.sizeOf48 hi28 rfl rfl) ?_
                          refine okL_step 55 (Ty.agg [(tI y27.Instr.Op), (tI y27.Instr.A), (tI y27.Instr.B), (tI y27.Instr.C), (tI y27.Instr.N), (tL 1 lI y27.Args)]) rfl rfl (does_loadA [(tI y27.Instr.Op), (tI y27.Instr.A), (tI y27.Instr.B), (tI y27.Instr.C), (tI y27.Instr.N), (tL 1 lI y27.Args)] Tryd.isAgg48 Tryd.sizeOf48 rfl rfl rfl) ?_
                          refine okL_stepO 8 rfl rfl (doesO_alloc [(tI 0), (tI 0), (tI 0), (tI 0), (tI 0), (Ty.val (.slice none 0 0))] Tryd.zeroValue48 (part_of (sub_agg [(.int .i64 0), (.int .i64 0), (.int .i64 0), (.int .i64 0), (.int .i64 0), (.slice none 0 0)] rfl) (part_agg _)) (fun g29 => ?_))
                          refine okL_stepU rfl (doesO_storeB (ps := [(tI y27.Instr.Op), (tI y27.Instr.A), (tI y27.Instr.B), (tI y27.Instr.C), (tI y27.Instr.N), (tL 1 lI y27.Args)]) 0 [(tI y27.Instr.Op), (tI y27.Instr.A), (tI y27.Instr.B), (tI y27.Instr.C), (tI y27.Instr.N), (tL 1 lI y27.Args)] (Item.blk g29 48 [(tI y27.Instr.Op), (tI y27.Instr.A), (tI y27.Instr.B), (tI y27.Instr.C), (tI y27.Instr.N), (tL 1 lI y27.Args)] :: Item.blk g18 43 [(tL 6 VInstr.ty y16.Instrs), (tI y16.End), (tI y16.Reg), (tI y16.Target), (tI y16.Else)] :: Item.blk g1 27 [(tI a0.Params), (tI a0.Regs), (tL 5 Block.ty a0.Blocks)] :: L) rfl rfl (part_agg _) Tryd.sizeOf48 rfl rfl rfl rfl ?_)
                          refine okL_nil ?_
                          refine okX_next ?_
                          refine okC_seq ?_
                          refine okC_region ?_
                          refine okL_step 56 (Ty.agg [(tI a0.Params), (tI a0.Regs), (tL 5 Block.ty a0.Blocks)]) rfl rfl (does_loadBA [(tI a0.Params), (tI a0.Regs), (tL 5 Block.ty a0.Blocks)] Tryd.isAgg27 Tryd.sizeOf27 rfl 2 rfl rfl rfl) ?_
                          refine okL_step 57 (Ty.agg [(tI y27.Instr.Op), (tI y27.Instr.A), (tI y27.Instr.B), (tI y27.Instr.C), (tI y27.Instr.N), (tL 1 lI y27.Args)]) rfl rfl (does_loadBA [(tI y27.Instr.Op), (tI y27.Instr.A), (tI y27.Instr.B), (tI y27.Instr.C), (tI y27.Instr.N), (tL 1 lI y27.Args)] Tryd.isAgg48 Tryd.sizeOf48 rfl 0 rfl rfl rfl) ?_
                          obtain ⟨r30, hc31, h⟩ := bs h
                          refine okL_step 58 (tB r30) rfl rfl (does_call0 (c_vcode_validInstr K a0 y27 r30 hc31) rfl Tryd.call103 rfl) ?_
                          refine okL_step 59 (tB (!r30)) rfl rfl (does_not rfl) ?_
                          refine okL_nil ?_
                          refine okX_next ?_
                          refine okC_cond (b := (!r30)) rfl (fun hb32 => ?_) (fun hb32 => ?_)
                          · replace h := ct hb32 h
                            refine okC_seq ?_
                            refine okC_region ?_
                            refine okL_step 2 (tB false) rfl rfl (does_assign rfl) ?_
                            refine okL_nil ?_
                            refine okX_next ?_
                            refine okC_ret ?_
                            refine okX_block_ret ?_
                            refine okX_then_ret ?_
                            refine okX_again_ret ?_
                            refine okX_block_ret ?_
                            refine okX_meet_ret ?_
                            replace h := outh h hz22
                            refine okX_then_ret ?_
                            refine okX_block_ret ?_
                            refine okX_then_ret ?_
                            refine okX_again_ret ?_
                            refine okX_block_ret ?_
                            refine okX_meet_ret ?_
                            replace h := outh h hz11
                            refine okX_then_ret ?_
                            obtain rfl := (smh h).symm
                            refine okX_items [Item.blk g29 48 [(tI y27.Instr.Op), (tI y27.Instr.A), (tI y27.Instr.B), (tI y27.Instr.C), (tI y27.Instr.N), (tL 1 lI y27.Args)], Item.blk g18 43 [(tL 6 VInstr.ty y16.Instrs), (tI y16.End), (tI y16.Reg), (tI y16.Target), (tI y16.Else)], Item.blk g1 27 [(tI a0.Params), (tI a0.Regs), (tL 5 Block.ty a0.Blocks)]] (L) (pm 0 rfl (pm 0 rfl (pm 0 rfl (pr _)))) ?_
                            exact okX_ret1 () Tryd.results63 rfl rfl
                          · replace h := cf hb32 h
                            refine okC_skip ?_
                            refine okX_block_normal ?_
                            refine okX_next ?_
                            refine okC_region ?_
                            refine okL_step 60 (tI (w64 (s24 + 1))) rfl rfl (does_add rfl rfl) ?_
                            refine okL_step 52 (tI (w64 (s24 + 1))) rfl rfl (does_move rfl) ?_
                            refine okL_nil ?_
                            refine okX_items [Item.blk g29 48 [(tI y27.Instr.Op), (tI y27.Instr.A), (tI y27.Instr.B), (tI y27.Instr.C), (tI y27.Instr.N), (tL 1 lI y27.Args)]] (Item.blk g18 43 [(tL 6 VInstr.ty y16.Instrs), (tI y16.End), (tI y16.Reg), (tI y16.Target), (tI y16.Else)] :: Item.blk g1 27 [(tI a0.Params), (tI a0.Regs), (tL 5 Block.ty a0.Blocks)] :: L) (pm 0 rfl (pm 0 rfl (pm 0 rfl (pr _)))) ?_
                            exact okX_again k (Nat.lt_succ_self k) (w64 (s24 + 1)) h (cc rfl (cc rfl (cc rfl (cc rfl (cc rfl (cc rfl (cc rfl (cc rfl (cc rfl (cc rfl cn)))))))))) rfl
                        · replace h := cf hb26 h
                          refine okC_exit ?_
                          refine okX_then_exit ?_
                          refine okX_again_exit ?_
                          refine okX_block_hit ?_
                          exact okX_meet (I := _) () (innh h) (cc rfl (cc rfl (cc rfl (cc rfl (cc rfl (cc rfl (cc rfl cn))))))) rfl
                    · intro s19 hx
                      change OkX _ _ _ [(1, (pAt g1 0)), (3, (Ty.val (.func (.func 101) #[] #[(.pointer (some ⟨g1, 0, none⟩))]))), (4, (Ty.val (.func (.func 102) #[] #[(.pointer (some ⟨g1, 0, none⟩))]))), (6, (pAt g18 0)), (43, (tL 5 Block.ty a0.Blocks)), (44, (tI ((a0.Blocks).length : Int))), (45, (tI s13))] (Item.blk g18 43 [(tL 6 VInstr.ty y16.Instrs), (tI y16.End), (tI y16.Reg), (tI y16.Target), (tI y16.Else)] :: Item.blk g1 27 [(tI a0.Params), (tI a0.Regs), (tL 5 Block.ty a0.Blocks)] :: L)
                      have hx : z21 = .inl s19 := hx
                      subst hx
                      replace h := hz22
                      refine okX_next ?_
                      refine okC_seq ?_
                      refine okC_region ?_
                      refine okL_step 9 (tB false) rfl rfl (does_assign rfl) ?_
                      refine okL_nil ?_
                      refine okX_next ?_
                      obtain ⟨z35, h37, hz36⟩ := bs h
                      refine okC_meet (X := Bool) (fun x => z35 = x) (fun x : Bool => [(1, (pAt g1 0)), (3, (Ty.val (.func (.func 101) #[] #[(.pointer (some ⟨g1, 0, none⟩))]))), (4, (Ty.val (.func (.func 102) #[] #[(.pointer (some ⟨g1, 0, none⟩))]))), (9, (tB x)), (43, (tL 5 Block.ty a0.Blocks)), (44, (tI ((a0.Blocks).length : Int))), (45, (tI s13))]) (fun x : Bool => Item.blk g18 43 [(tL 6 VInstr.ty y16.Instrs), (tI y16.End), (tI y16.Reg), (tI y16.Target), (tI y16.Else)] :: Item.blk g1 27 [(tI a0.Params), (tI a0.Regs), (tL 5 Block.ty a0.Blocks)] :: L) ?_ ?_
                      · refine okC_seq ?_
                        refine okC_region ?_
                        refine okL_step 61 (pAt g18 1) rfl rfl (does_fieldAddrP 1 Tryd.underlying43 rfl Tryd.sizeOf3 rfl rfl) ?_
                        refine okL_step 62 (tI y16.End) rfl rfl (does_loadB1 Tryd.isAgg3 rfl 0 rfl rfl) ?_
                        refine okL_nil ?_
                        refine okX_next ?_
                        refine okC_block ?_
                        refine okC_seq ?_
                        refine okC_region ?_
                        refine okL_step 64 (tB (y16.End == 1)) rfl rfl (does_eql rfl rfl) ?_
                        refine okL_step 63 (tB (y16.End == 1)) rfl rfl (does_assign rfl) ?_
                        refine okL_nil ?_
                        refine okX_next ?_
                        refine okC_cond (b := (y16.End == 1)) rfl (fun hb38 => ?_) (fun hb38 => ?_)
                        · replace h37 := ct hb38 h37
                          refine okC_region ?_
                          refine okL_step 65 (Ty.val (.func (.func 101) #[] #[(.pointer (some ⟨g1, 0, none⟩))])) rfl rfl (does_move rfl) ?_
                          refine okL_step 66 (pAt g18 3) rfl rfl (does_fieldAddrP 3 Tryd.underlying43 rfl Tryd.sizeOf3 rfl rfl) ?_
                          refine okL_step 67 (tI y16.Target) rfl rfl (does_loadB1 Tryd.isAgg3 rfl 0 rfl rfl) ?_
                          obtain ⟨r39, hc40, h37⟩ := bs h37
                          refine okL_step 68 (tB r39) rfl rfl (does_callC (As := [(tI y16.Target)]) (Cs := [(pAt g1 0)]) 1 rfl (c_vcode_Valid_1 y16.Target a0 g1 r39 hc40) rfl Tryd.call101 rfl rfl rfl) ?_
                          refine okL_step 69 (tB r39) rfl rfl (does_move rfl) ?_
                          refine okL_meet (X := Bool) 4 (fun x => x = (r39 && (y16.Reg == 0))) (fun x : Bool => [(1, (pAt g1 0)), (3, (Ty.val (.func (.func 101) #[] #[(.pointer (some ⟨g1, 0, none⟩))]))), (4, (Ty.val (.func (.func 102) #[] #[(.pointer (some ⟨g1, 0, none⟩))]))), (6, (pAt g18 0)), (9, (tB false)), (43, (tL 5 Block.ty a0.Blocks)), (44, (tI ((a0.Blocks).length : Int))), (45, (tI s13)), (73, (tB x))]) (fun x : Bool => Item.blk g18 43 [(tL 6 VInstr.ty y16.Instrs), (tI y16.End), (tI y16.Reg), (tI y16.Target), (tI y16.Else)] :: Item.blk g1 27 [(tI a0.Params), (tI a0.Regs), (tL 5 Block.ty a0.Blocks)] :: L) _ rfl ?_ ?_
                          · refine okL_split r39 (fun hb41 => ?_) (fun hb41 => ?_)
                            · refine okL_guard 70 (pAt g18 2) 69 r39 rfl rfl hb41 rfl rfl (does_fieldAddrP 2 Tryd.underlying43 rfl Tryd.sizeOf3 rfl rfl) ?_
                              refine okL_guard 71 (tI y16.Reg) 69 r39 rfl rfl hb41 rfl rfl (does_loadB1 Tryd.isAgg3 rfl 0 rfl rfl) ?_
                              refine okL_guard 72 (tB (y16.Reg == 0)) 69 r39 rfl rfl hb41 rfl rfl (does_eql rfl rfl) ?_
                              refine okL_step 73 (tB (y16.Reg == 0)) rfl rfl (does_pick_t r39 rfl hb41 rfl) ?_
                              refine okL_nil ?_
                              exact okX_meet (I := _) (y16.Reg == 0) (and_t hb41) (cc rfl (cc rfl (cc rfl (cc rfl (cc rfl (cc rfl (cc rfl (cc rfl (cc rfl cn))))))))) rfl
                            · refine okL_skip 70 69 r39 rfl rfl hb41 rfl rfl ?_
                              refine okL_skip 71 69 r39 rfl rfl hb41 rfl rfl ?_
                              refine okL_skip 72 69 r39 rfl rfl hb41 rfl rfl ?_
                              refine okL_step 73 (tB false) rfl rfl (does_pick_f r39 rfl hb41 rfl) ?_
                              refine okL_nil ?_
                              exact okX_meet (I := _) false (and_f hb41) (cc rfl (cc rfl (cc rfl (cc rfl (cc rfl (cc rfl (cc rfl (cc rfl (cc rfl cn))))))))) rfl
                          · intro x44 hx
                            subst hx
                            change OkL _ _ _ _ [(1, (pAt g1 0)), (3, (Ty.val (.func (.func 101) #[] #[(.pointer (some ⟨g1, 0, none⟩))]))), (4, (Ty.val (.func (.func 102) #[] #[(.pointer (some ⟨g1, 0, none⟩))]))), (6, (pAt g18 0)), (9, (tB false)), (43, (tL 5 Block.ty a0.Blocks)), (44, (tI ((a0.Blocks).length : Int))), (45, (tI s13)), (73, (tB (r39 && (y16.Reg == 0))))] (Item.blk g18 43 [(tL 6 VInstr.ty y16.Instrs), (tI y16.End), (tI y16.Reg), (tI y16.Target), (tI y16.Else)] :: Item.blk g1 27 [(tI a0.Params), (tI a0.Regs), (tL 5 Block.ty a0.Blocks)] :: L)
                            refine okL_step 74 (tB (r39 && (y16.Reg == 0))) rfl rfl (does_move rfl) ?_
                            refine okL_meet (X := Bool) 4 (fun x => x = ((r39 && (y16.Reg == 0)) && (y16.Else == 0))) (fun x : Bool => [(1, (pAt g1 0)), (3, (Ty.val (.func (.func 101) #[] #[(.pointer (some ⟨g1, 0, none⟩))]))), (4, (Ty.val (.func (.func 102) #[] #[(.pointer (some ⟨g1, 0, none⟩))]))), (9, (tB false)), (43, (tL 5 Block.ty a0.Blocks)), (44, (tI ((a0.Blocks).length : Int))), (45, (tI s13)), (78, (tB x))]) (fun x : Bool => Item.blk g18 43 [(tL 6 VInstr.ty y16.Instrs), (tI y16.End), (tI y16.Reg), (tI y16.Target), (tI y16.Else)] :: Item.blk g1 27 [(tI a0.Params), (tI a0.Regs), (tL 5 Block.ty a0.Blocks)] :: L) _ rfl ?_ ?_
                            · refine okL_split (r39 && (y16.Reg == 0)) (fun hb42 => ?_) (fun hb42 => ?_)
                              · refine okL_guard 75 (pAt g18 4) 74 (r39 && (y16.Reg == 0)) rfl rfl hb42 rfl rfl (does_fieldAddrP 4 Tryd.underlying43 rfl Tryd.sizeOf3 rfl rfl) ?_
                                refine okL_guard 76 (tI y16.Else) 74 (r39 && (y16.Reg == 0)) rfl rfl hb42 rfl rfl (does_loadB1 Tryd.isAgg3 rfl 0 rfl rfl) ?_
                                refine okL_guard 77 (tB (y16.Else == 0)) 74 (r39 && (y16.Reg == 0)) rfl rfl hb42 rfl rfl (does_eql rfl rfl) ?_
                                refine okL_step 78 (tB (y16.Else == 0)) rfl rfl (does_pick_t (r39 && (y16.Reg == 0)) rfl hb42 rfl) ?_
                                refine okL_nil ?_
                                exact okX_meet (I := _) (y16.Else == 0) (and_t hb42) (cc rfl (cc rfl (cc rfl (cc rfl (cc rfl (cc rfl (cc rfl (cc rfl cn)))))))) rfl
                              · refine okL_skip 75 74 (r39 && (y16.Reg == 0)) rfl rfl hb42 rfl rfl ?_
                                refine okL_skip 76 74 (r39 && (y16.Reg == 0)) rfl rfl hb42 rfl rfl ?_
                                refine okL_skip 77 74 (r39 && (y16.Reg == 0)) rfl rfl hb42 rfl rfl ?_
                                refine okL_step 78 (tB false) rfl rfl (does_pick_f (r39 && (y16.Reg == 0)) rfl hb42 rfl) ?_
                                refine okL_nil ?_
                                exact okX_meet (I := _) false (and_f hb42) (cc rfl (cc rfl (cc rfl (cc rfl (cc rfl (cc rfl (cc rfl (cc rfl cn)))))))) rfl
                            · intro x43 hx
                              subst hx
                              change OkL _ _ _ _ [(1, (pAt g1 0)), (3, (Ty.val (.func (.func 101) #[] #[(.pointer (some ⟨g1, 0, none⟩))]))), (4, (Ty.val (.func (.func 102) #[] #[(.pointer (some ⟨g1, 0, none⟩))]))), (9, (tB false)), (43, (tL 5 Block.ty a0.Blocks)), (44, (tI ((a0.Blocks).length : Int))), (45, (tI s13)), (78, (tB ((r39 && (y16.Reg == 0)) && (y16.Else == 0))))] (Item.blk g18 43 [(tL 6 VInstr.ty y16.Instrs), (tI y16.End), (tI y16.Reg), (tI y16.Target), (tI y16.Else)] :: Item.blk g1 27 [(tI a0.Params), (tI a0.Regs), (tL 5 Block.ty a0.Blocks)] :: L)
                              refine okL_step 9 (tB ((r39 && (y16.Reg == 0)) && (y16.Else == 0))) rfl rfl (does_assign rfl) ?_
                              refine okL_nil ?_
                              refine okX_block_normal ?_
                              exact okX_meet (I := _) ((r39 && (y16.Reg == 0)) && (y16.Else == 0)) (smh h37) (cc rfl (cc rfl (cc rfl (cc rfl (cc rfl (cc rfl (cc rfl cn))))))) rfl
                        · replace h37 := cf hb38 h37
                          refine okC_seq ?_
                          refine okC_region ?_
                          refine okL_step 80 (tB (y16.End == 2)) rfl rfl (does_eql rfl rfl) ?_
                          refine okL_step 79 (tB (y16.End == 2)) rfl rfl (does_assign rfl) ?_
                          refine okL_nil ?_
                          refine okX_next ?_
                          refine okC_cond (b := (y16.End == 2)) rfl (fun hb45 => ?_) (fun hb45 => ?_)
                          · replace h37 := ct hb45 h37
                            refine okC_region ?_
                            refine okL_step 81 (Ty.val (.func (.func 101) #[] #[(.pointer (some ⟨g1, 0, none⟩))])) rfl rfl (does_move rfl) ?_
                            refine okL_step 82 (pAt g18 3) rfl rfl (does_fieldAddrP 3 Tryd.underlying43 rfl Tryd.sizeOf3 rfl rfl) ?_
                            refine okL_step 83 (tI y16.Target) rfl rfl (does_loadB1 Tryd.isAgg3 rfl 0 rfl rfl) ?_
                            obtain ⟨r46, hc47, h37⟩ := bs h37
                            refine okL_step 84 (tB r46) rfl rfl (does_callC (As := [(tI y16.Target)]) (Cs := [(pAt g1 0)]) 1 rfl (c_vcode_Valid_1 y16.Target a0 g1 r46 hc47) rfl Tryd.call101 rfl rfl rfl) ?_
                            refine okL_step 85 (tB r46) rfl rfl (does_move rfl) ?_
                            obtain ⟨z49, h51, hz50⟩ := bs h37
                            refine okL_meet (X := Bool) 5 (fun x => z49 = x) (fun x : Bool => [(1, (pAt g1 0)), (3, (Ty.val (.func (.func 101) #[] #[(.pointer (some ⟨g1, 0, none⟩))]))), (4, (Ty.val (.func (.func 102) #[] #[(.pointer (some ⟨g1, 0, none⟩))]))), (6, (pAt g18 0)), (9, (tB false)), (43, (tL 5 Block.ty a0.Blocks)), (44, (tI ((a0.Blocks).length : Int))), (45, (tI s13)), (90, (tB x))]) (fun x : Bool => Item.blk g18 43 [(tL 6 VInstr.ty y16.Instrs), (tI y16.End), (tI y16.Reg), (tI y16.Target), (tI y16.Else)] :: Item.blk g1 27 [(tI a0.Params), (tI a0.Regs), (tL 5 Block.ty a0.Blocks)] :: L) _ rfl ?_ ?_
                            · refine okL_split r46 (fun hb48 => ?_) (fun hb48 => ?_)
                              · replace h51 := ct hb48 h51
                                refine okL_guard 86 (Ty.val (.func (.func 101) #[] #[(.pointer (some ⟨g1, 0, none⟩))])) 85 r46 rfl rfl hb48 rfl rfl (does_move rfl) ?_
                                refine okL_guard 87 (pAt g18 4) 85 r46 rfl rfl hb48 rfl rfl (does_fieldAddrP 4 Tryd.underlying43 rfl Tryd.sizeOf3 rfl rfl) ?_
                                refine okL_guard 88 (tI y16.Else) 85 r46 rfl rfl hb48 rfl rfl (does_loadB1 Tryd.isAgg3 rfl 0 rfl rfl) ?_
                                obtain ⟨r53, hc54, h51⟩ := bs h51
                                refine okL_guard 89 (tB r53) 85 r46 rfl rfl hb48 rfl rfl (does_callC (As := [(tI y16.Else)]) (Cs := [(pAt g1 0)]) 1 rfl (c_vcode_Valid_1 y16.Else a0 g1 r53 hc54) rfl Tryd.call101 rfl rfl rfl) ?_
                                refine okL_step 90 (tB r53) rfl rfl (does_pick_t r46 rfl hb48 rfl) ?_
                                refine okL_nil ?_
                                exact okX_meet (I := _) r53 (smh h51) (cc rfl (cc rfl (cc rfl (cc rfl (cc rfl (cc rfl (cc rfl (cc rfl (cc rfl cn))))))))) rfl
                              · replace h51 := cf hb48 h51
                                refine okL_skip 86 85 r46 rfl rfl hb48 rfl rfl ?_
                                refine okL_skip 87 85 r46 rfl rfl hb48 rfl rfl ?_
                                refine okL_skip 88 85 r46 rfl rfl hb48 rfl rfl ?_
                                refine okL_skip 89 85 r46 rfl rfl hb48 rfl rfl ?_
                                refine okL_step 90 (tB false) rfl rfl (does_pick_f r46 rfl hb48 rfl) ?_
                                refine okL_nil ?_
                                exact okX_meet (I := _) false (smh h51) (cc rfl (cc rfl (cc rfl (cc rfl (cc rfl (cc rfl (cc rfl (cc rfl (cc rfl cn))))))))) rfl
                            · intro x52 hx
                              obtain rfl : x52 = z49 := hx.symm
                              replace h37 := hz50
                              change OkL _ _ _ _ [(1, (pAt g1 0)), (3, (Ty.val (.func (.func 101) #[] #[(.pointer (some ⟨g1, 0, none⟩))]))), (4, (Ty.val (.func (.func 102) #[] #[(.pointer (some ⟨g1, 0, none⟩))]))), (6, (pAt g18 0)), (9, (tB false)), (43, (tL 5 Block.ty a0.Blocks)), (44, (tI ((a0.Blocks).length : Int))), (45, (tI s13)), (90, (tB x52))] (Item.blk g18 43 [(tL 6 VInstr.ty y16.Instrs), (tI y16.End), (tI y16.Reg), (tI y16.Target), (tI y16.Else)] :: Item.blk g1 27 [(tI a0.Params), (tI a0.Regs), (tL 5 Block.ty a0.Blocks)] :: L)
                              refine okL_step 91 (tB x52) rfl rfl (does_move rfl) ?_
                              obtain ⟨z56, h58, hz57⟩ := bs h37
                              refine okL_meet (X := Bool) 5 (fun x => z56 = x) (fun x : Bool => [(1, (pAt g1 0)), (3, (Ty.val (.func (.func 101) #[] #[(.pointer (some ⟨g1, 0, none⟩))]))), (4, (Ty.val (.func (.func 102) #[] #[(.pointer (some ⟨g1, 0, none⟩))]))), (9, (tB false)), (43, (tL 5 Block.ty a0.Blocks)), (44, (tI ((a0.Blocks).length : Int))), (45, (tI s13)), (96, (tB x))]) (fun x : Bool => Item.blk g18 43 [(tL 6 VInstr.ty y16.Instrs), (tI y16.End), (tI y16.Reg), (tI y16.Target), (tI y16.Else)] :: Item.blk g1 27 [(tI a0.Params), (tI a0.Regs), (tL 5 Block.ty a0.Blocks)] :: L) _ rfl ?_ ?_
                              · refine okL_split x52 (fun hb55 => ?_) (fun hb55 => ?_)
                                · replace h58 := ct hb55 h58
                                  refine okL_guard 92 (Ty.val (.func (.func 102) #[] #[(.pointer (some ⟨g1, 0, none⟩))])) 91 x52 rfl rfl hb55 rfl rfl (does_move rfl) ?_
                                  refine okL_guard 93 (pAt g18 2) 91 x52 rfl rfl hb55 rfl rfl (does_fieldAddrP 2 Tryd.underlying43 rfl Tryd.sizeOf3 rfl rfl) ?_
                                  refine okL_guard 94 (tI y16.Reg) 91 x52 rfl rfl hb55 rfl rfl (does_loadB1 Tryd.isAgg3 rfl 0 rfl rfl) ?_
                                  obtain ⟨r60, hc61, h58⟩ := bs h58
                                  refine okL_guard 95 (tB r60) 91 x52 rfl rfl hb55 rfl rfl (does_callC (As := [(tI y16.Reg)]) (Cs := [(pAt g1 0)]) 1 rfl (c_vcode_Valid_2 y16.Reg a0 g1 r60 hc61) rfl Tryd.call102 rfl rfl rfl) ?_
                                  refine okL_step 96 (tB r60) rfl rfl (does_pick_t x52 rfl hb55 rfl) ?_
                                  refine okL_nil ?_
                                  exact okX_meet (I := _) r60 (smh h58) (cc rfl (cc rfl (cc rfl (cc rfl (cc rfl (cc rfl (cc rfl (cc rfl cn)))))))) rfl
                                · replace h58 := cf hb55 h58
                                  refine okL_skip 92 91 x52 rfl rfl hb55 rfl rfl ?_
                                  refine okL_skip 93 91 x52 rfl rfl hb55 rfl rfl ?_
                                  refine okL_skip 94 91 x52 rfl rfl hb55 rfl rfl ?_
                                  refine okL_skip 95 91 x52 rfl rfl hb55 rfl rfl ?_
                                  refine okL_step 96 (tB false) rfl rfl (does_pick_f x52 rfl hb55 rfl) ?_
                                  refine okL_nil ?_
                                  exact okX_meet (I := _) false (smh h58) (cc rfl (cc rfl (cc rfl (cc rfl (cc rfl (cc rfl (cc rfl (cc rfl cn)))))))) rfl
                              · intro x59 hx
                                obtain rfl : x59 = z56 := hx.symm
                                replace h37 := hz57
                                change OkL _ _ _ _ [(1, (pAt g1 0)), (3, (Ty.val (.func (.func 101) #[] #[(.pointer (some ⟨g1, 0, none⟩))]))), (4, (Ty.val (.func (.func 102) #[] #[(.pointer (some ⟨g1, 0, none⟩))]))), (9, (tB false)), (43, (tL 5 Block.ty a0.Blocks)), (44, (tI ((a0.Blocks).length : Int))), (45, (tI s13)), (96, (tB x59))] (Item.blk g18 43 [(tL 6 VInstr.ty y16.Instrs), (tI y16.End), (tI y16.Reg), (tI y16.Target), (tI y16.Else)] :: Item.blk g1 27 [(tI a0.Params), (tI a0.Regs), (tL 5 Block.ty a0.Blocks)] :: L)
                                refine okL_step 9 (tB x59) rfl rfl (does_assign rfl) ?_
                                refine okL_nil ?_
                                refine okX_block_normal ?_
                                exact okX_meet (I := _) x59 (smh h37) (cc rfl (cc rfl (cc rfl (cc rfl (cc rfl (cc rfl (cc rfl cn))))))) rfl
                          · replace h37 := cf hb45 h37
                            refine okC_seq ?_
                            refine okC_region ?_
                            refine okL_step 98 (tB (y16.End == 3)) rfl rfl (does_eql rfl rfl) ?_
                            refine okL_step 97 (tB (y16.End == 3)) rfl rfl (does_assign rfl) ?_
                            refine okL_nil ?_
                            refine okX_next ?_
                            refine okC_cond (b := (y16.End == 3)) rfl (fun hb62 => ?_) (fun hb62 => ?_)
                            · replace h37 := ct hb62 h37
                              refine okC_region ?_
                              refine okL_step 99 (Ty.val (.func (.func 102) #[] #[(.pointer (some ⟨g1, 0, none⟩))])) rfl rfl (does_move rfl) ?_
                              refine okL_step 100 (pAt g18 2) rfl rfl (does_fieldAddrP 2 Tryd.underlying43 rfl Tryd.sizeOf3 rfl rfl) ?_
                              refine okL_step 101 (tI y16.Reg) rfl rfl (does_loadB1 Tryd.isAgg3 rfl 0 rfl rfl) ?_
                              obtain ⟨r63, hc64, h37⟩ := bs h37
                              refine okL_step 102 (tB r63) rfl rfl (does_callC (As := [(tI y16.Reg)]) (Cs := [(pAt g1 0)]) 1 rfl (c_vcode_Valid_2 y16.Reg a0 g1 r63 hc64) rfl Tryd.call102 rfl rfl rfl) ?_
                              refine okL_step 103 (tB r63) rfl rfl (does_move rfl) ?_
                              refine okL_meet (X := Bool) 4 (fun x => x = (r63 && (y16.Target == 0))) (fun x : Bool => [(1, (pAt g1 0)), (3, (Ty.val (.func (.func 101) #[] #[(.pointer (some ⟨g1, 0, none⟩))]))), (4, (Ty.val (.func (.func 102) #[] #[(.pointer (some ⟨g1, 0, none⟩))]))), (6, (pAt g18 0)), (9, (tB false)), (43, (tL 5 Block.ty a0.Blocks)), (44, (tI ((a0.Blocks).length : Int))), (45, (tI s13)), (107, (tB x))]) (fun x : Bool => Item.blk g18 43 [(tL 6 VInstr.ty y16.Instrs), (tI y16.End), (tI y16.Reg), (tI y16.Target), (tI y16.Else)] :: Item.blk g1 27 [(tI a0.Params), (tI a0.Regs), (tL 5 Block.ty a0.Blocks)] :: L) _ rfl ?_ ?_
                              · refine okL_split r63 (fun hb65 => ?_) (fun hb65 => ?_)
                                · refine okL_guard 104 (pAt g18 3) 103 r63 rfl rfl hb65 rfl rfl (does_fieldAddrP 3 Tryd.underlying43 rfl Tryd.sizeOf3 rfl rfl) ?_
                                  refine okL_guard 105 (tI y16.Target) 103 r63 rfl rfl hb65 rfl rfl (does_loadB1 Tryd.isAgg3 rfl 0 rfl rfl) ?_
                                  refine okL_guard 106 (tB (y16.Target == 0)) 103 r63 rfl rfl hb65 rfl rfl (does_eql rfl rfl) ?_
                                  refine okL_step 107 (tB (y16.Target == 0)) rfl rfl (does_pick_t r63 rfl hb65 rfl) ?_
                                  refine okL_nil ?_
                                  exact okX_meet (I := _) (y16.Target == 0) (and_t hb65) (cc rfl (cc rfl (cc rfl (cc rfl (cc rfl (cc rfl (cc rfl (cc rfl (cc rfl cn))))))))) rfl
                                · refine okL_skip 104 103 r63 rfl rfl hb65 rfl rfl ?_
                                  refine okL_skip 105 103 r63 rfl rfl hb65 rfl rfl ?_
                                  refine okL_skip 106 103 r63 rfl rfl hb65 rfl rfl ?_
                                  refine okL_step 107 (tB false) rfl rfl (does_pick_f r63 rfl hb65 rfl) ?_
                                  refine okL_nil ?_
                                  exact okX_meet (I := _) false (and_f hb65) (cc rfl (cc rfl (cc rfl (cc rfl (cc rfl (cc rfl (cc rfl (cc rfl (cc rfl cn))))))))) rfl
                              · intro x68 hx
                                subst hx
                                change OkL _ _ _ _ [(1, (pAt g1 0)), (3, (Ty.val (.func (.func 101) #[] #[(.pointer (some ⟨g1, 0, none⟩))]))), (4, (Ty.val (.func (.func 102) #[] #[(.pointer (some ⟨g1, 0, none⟩))]))), (6, (pAt g18 0)), (9, (tB false)), (43, (tL 5 Block.ty a0.Blocks)), (44, (tI ((a0.Blocks).length : Int))), (45, (tI s13)), (107, (tB (r63 && (y16.Target == 0))))] (Item.blk g18 43 [(tL 6 VInstr.ty y16.Instrs), (tI y16.End), (tI y16.Reg), (tI y16.Target), (tI y16.Else)] :: Item.blk g1 27 [(tI a0.Params), (tI a0.Regs), (tL 5 Block.ty a0.Blocks)] :: L)
                                refine okL_step 108 (tB (r63 && (y16.Target == 0))) rfl rfl (does_move rfl) ?_
                                refine okL_meet (X := Bool) 4 (fun x => x = ((r63 && (y16.Target == 0)) && (y16.Else == 0))) (fun x : Bool => [(1, (pAt g1 0)), (3, (Ty.val (.func (.func 101) #[] #[(.pointer (some ⟨g1, 0, none⟩))]))), (4, (Ty.val (.func (.func 102) #[] #[(.pointer (some ⟨g1, 0, none⟩))]))), (9, (tB false)), (43, (tL 5 Block.ty a0.Blocks)), (44, (tI ((a0.Blocks).length : Int))), (45, (tI s13)), (112, (tB x))]) (fun x : Bool => Item.blk g18 43 [(tL 6 VInstr.ty y16.Instrs), (tI y16.End), (tI y16.Reg), (tI y16.Target), (tI y16.Else)] :: Item.blk g1 27 [(tI a0.Params), (tI a0.Regs), (tL 5 Block.ty a0.Blocks)] :: L) _ rfl ?_ ?_
                                · refine okL_split (r63 && (y16.Target == 0)) (fun hb66 => ?_) (fun hb66 => ?_)
                                  · refine okL_guard 109 (pAt g18 4) 108 (r63 && (y16.Target == 0)) rfl rfl hb66 rfl rfl (does_fieldAddrP 4 Tryd.underlying43 rfl Tryd.sizeOf3 rfl rfl) ?_
                                    refine okL_guard 110 (tI y16.Else) 108 (r63 && (y16.Target == 0)) rfl rfl hb66 rfl rfl (does_loadB1 Tryd.isAgg3 rfl 0 rfl rfl) ?_
                                    refine okL_guard 111 (tB (y16.Else == 0)) 108 (r63 && (y16.Target == 0)) rfl rfl hb66 rfl rfl (does_eql rfl rfl) ?_
                                    refine okL_step 112 (tB (y16.Else == 0)) rfl rfl (does_pick_t (r63 && (y16.Target == 0)) rfl hb66 rfl) ?_
                                    refine okL_nil ?_
                                    exact okX_meet (I := _) (y16.Else == 0) (and_t hb66) (cc rfl (cc rfl (cc rfl (cc rfl (cc rfl (cc rfl (cc rfl (cc rfl cn)))))))) rfl
                                  · refine okL_skip 109 108 (r63 && (y16.Target == 0)) rfl rfl hb66 rfl rfl ?_
                                    refine okL_skip 110 108 (r63 && (y16.Target == 0)) rfl rfl hb66 rfl rfl ?_
                                    refine okL_skip 111 108 (r63 && (y16.Target == 0)) rfl rfl hb66 rfl rfl ?_
                                    refine okL_step 112 (tB false) rfl rfl (does_pick_f (r63 && (y16.Target == 0)) rfl hb66 rfl) ?_
                                    refine okL_nil ?_
                                    exact okX_meet (I := _) false (and_f hb66) (cc rfl (cc rfl (cc rfl (cc rfl (cc rfl (cc rfl (cc rfl (cc rfl cn)))))))) rfl
                                · intro x67 hx
                                  subst hx
                                  change OkL _ _ _ _ [(1, (pAt g1 0)), (3, (Ty.val (.func (.func 101) #[] #[(.pointer (some ⟨g1, 0, none⟩))]))), (4, (Ty.val (.func (.func 102) #[] #[(.pointer (some ⟨g1, 0, none⟩))]))), (9, (tB false)), (43, (tL 5 Block.ty a0.Blocks)), (44, (tI ((a0.Blocks).length : Int))), (45, (tI s13)), (112, (tB ((r63 && (y16.Target == 0)) && (y16.Else == 0))))] (Item.blk g18 43 [(tL 6 VInstr.ty y16.Instrs), (tI y16.End), (tI y16.Reg), (tI y16.Target), (tI y16.Else)] :: Item.blk g1 27 [(tI a0.Params), (tI a0.Regs), (tL 5 Block.ty a0.Blocks)] :: L)
                                  refine okL_step 9 (tB ((r63 && (y16.Target == 0)) && (y16.Else == 0))) rfl rfl (does_assign rfl) ?_
                                  refine okL_nil ?_
                                  refine okX_block_normal ?_
                                  exact okX_meet (I := _) ((r63 && (y16.Target == 0)) && (y16.Else == 0)) (smh h37) (cc rfl (cc rfl (cc rfl (cc rfl (cc rfl (cc rfl (cc rfl cn))))))) rfl
                            · replace h37 := cf hb62 h37
                              refine okC_seq ?_
                              refine okC_region ?_
                              refine okL_step 114 (tB (y16.End == 4)) rfl rfl (does_eql rfl rfl) ?_
                              refine okL_step 113 (tB (y16.End == 4)) rfl rfl (does_assign rfl) ?_
                              refine okL_nil ?_
                              refine okX_next ?_
                              refine okC_cond (b := (y16.End == 4)) rfl (fun hb69 => ?_) (fun hb69 => ?_)
                              · replace h37 := ct hb69 h37
                                refine okC_region ?_
                                refine okL_step 115 (pAt g18 3) rfl rfl (does_fieldAddrP 3 Tryd.underlying43 rfl Tryd.sizeOf3 rfl rfl) ?_
                                refine okL_step 116 (tI y16.Target) rfl rfl (does_loadB1 Tryd.isAgg3 rfl 0 rfl rfl) ?_
                                refine okL_step 117 (tB (decide (y16.Target ≥ 1))) rfl rfl (does_geq rfl rfl) ?_
                                refine okL_step 118 (tB (decide (y16.Target ≥ 1))) rfl rfl (does_move rfl) ?_
                                refine okL_meet (X := Bool) 4 (fun x => x = ((decide (y16.Target ≥ 1)) && (decide (y16.Target < 33554432)))) (fun x : Bool => [(1, (pAt g1 0)), (3, (Ty.val (.func (.func 101) #[] #[(.pointer (some ⟨g1, 0, none⟩))]))), (4, (Ty.val (.func (.func 102) #[] #[(.pointer (some ⟨g1, 0, none⟩))]))), (6, (pAt g18 0)), (9, (tB false)), (43, (tL 5 Block.ty a0.Blocks)), (44, (tI ((a0.Blocks).length : Int))), (45, (tI s13)), (122, (tB x))]) (fun x : Bool => Item.blk g18 43 [(tL 6 VInstr.ty y16.Instrs), (tI y16.End), (tI y16.Reg), (tI y16.Target), (tI y16.Else)] :: Item.blk g1 27 [(tI a0.Params), (tI a0.Regs), (tL 5 Block.ty a0.Blocks)] :: L) _ rfl ?_ ?_
                                · refine okL_split (decide (y16.Target ≥ 1)) (fun hb70 => ?_) (fun hb70 => ?_)
                                  · refine okL_guard 119 (pAt g18 3) 118 (decide (y16.Target ≥ 1)) rfl rfl hb70 rfl rfl (does_fieldAddrP 3 Tryd.underlying43 rfl Tryd.sizeOf3 rfl rfl) ?_
                                    refine okL_guard 120 (tI y16.Target) 118 (decide (y16.Target ≥ 1)) rfl rfl hb70 rfl rfl (does_loadB1 Tryd.isAgg3 rfl 0 rfl rfl) ?_
                                    refine okL_guard 121 (tB (decide (y16.Target < 33554432))) 118 (decide (y16.Target ≥ 1)) rfl rfl hb70 rfl rfl (does_lss rfl rfl) ?_
                                    refine okL_step 122 (tB (decide (y16.Target < 33554432))) rfl rfl (does_pick_t (decide (y16.Target ≥ 1)) rfl hb70 rfl) ?_
                                    refine okL_nil ?_
                                    exact okX_meet (I := _) (decide (y16.Target < 33554432)) (and_t hb70) (cc rfl (cc rfl (cc rfl (cc rfl (cc rfl (cc rfl (cc rfl (cc rfl (cc rfl cn))))))))) rfl
                                  · refine okL_skip 119 118 (decide (y16.Target ≥ 1)) rfl rfl hb70 rfl rfl ?_
                                    refine okL_skip 120 118 (decide (y16.Target ≥ 1)) rfl rfl hb70 rfl rfl ?_
                                    refine okL_skip 121 118 (decide (y16.Target ≥ 1)) rfl rfl hb70 rfl rfl ?_
                                    refine okL_step 122 (tB false) rfl rfl (does_pick_f (decide (y16.Target ≥ 1)) rfl hb70 rfl) ?_
                                    refine okL_nil ?_
                                    exact okX_meet (I := _) false (and_f hb70) (cc rfl (cc rfl (cc rfl (cc rfl (cc rfl (cc rfl (cc rfl (cc rfl (cc rfl cn))))))))) rfl
                                · intro x75 hx
                                  subst hx
                                  change OkL _ _ _ _ [(1, (pAt g1 0)), (3, (Ty.val (.func (.func 101) #[] #[(.pointer (some ⟨g1, 0, none⟩))]))), (4, (Ty.val (.func (.func 102) #[] #[(.pointer (some ⟨g1, 0, none⟩))]))), (6, (pAt g18 0)), (9, (tB false)), (43, (tL 5 Block.ty a0.Blocks)), (44, (tI ((a0.Blocks).length : Int))), (45, (tI s13)), (122, (tB ((decide (y16.Target ≥ 1)) && (decide (y16.Target < 33554432)))))] (Item.blk g18 43 [(tL 6 VInstr.ty y16.Instrs), (tI y16.End), (tI y16.Reg), (tI y16.Target), (tI y16.Else)] :: Item.blk g1 27 [(tI a0.Params), (tI a0.Regs), (tL 5 Block.ty a0.Blocks)] :: L)
                                  refine okL_step 123 (tB ((decide (y16.Target ≥ 1)) && (decide (y16.Target < 33554432)))) rfl rfl (does_move rfl) ?_
                                  refine okL_meet (X := Bool) 4 (fun x => x = (((decide (y16.Target ≥ 1)) && (decide (y16.Target < 33554432))) && (y16.Reg == 0))) (fun x : Bool => [(1, (pAt g1 0)), (3, (Ty.val (.func (.func 101) #[] #[(.pointer (some ⟨g1, 0, none⟩))]))), (4, (Ty.val (.func (.func 102) #[] #[(.pointer (some ⟨g1, 0, none⟩))]))), (6, (pAt g18 0)), (9, (tB false)), (43, (tL 5 Block.ty a0.Blocks)), (44, (tI ((a0.Blocks).length : Int))), (45, (tI s13)), (127, (tB x))]) (fun x : Bool => Item.blk g18 43 [(tL 6 VInstr.ty y16.Instrs), (tI y16.End), (tI y16.Reg), (tI y16.Target), (tI y16.Else)] :: Item.blk g1 27 [(tI a0.Params), (tI a0.Regs), (tL 5 Block.ty a0.Blocks)] :: L) _ rfl ?_ ?_
                                  · refine okL_split ((decide (y16.Target ≥ 1)) && (decide (y16.Target < 33554432))) (fun hb71 => ?_) (fun hb71 => ?_)
                                    · refine okL_guard 124 (pAt g18 2) 123 ((decide (y16.Target ≥ 1)) && (decide (y16.Target < 33554432))) rfl rfl hb71 rfl rfl (does_fieldAddrP 2 Tryd.underlying43 rfl Tryd.sizeOf3 rfl rfl) ?_
                                      refine okL_guard 125 (tI y16.Reg) 123 ((decide (y16.Target ≥ 1)) && (decide (y16.Target < 33554432))) rfl rfl hb71 rfl rfl (does_loadB1 Tryd.isAgg3 rfl 0 rfl rfl) ?_
                                      refine okL_guard 126 (tB (y16.Reg == 0)) 123 ((decide (y16.Target ≥ 1)) && (decide (y16.Target < 33554432))) rfl rfl hb71 rfl rfl (does_eql rfl rfl) ?_
                                      refine okL_step 127 (tB (y16.Reg == 0)) rfl rfl (does_pick_t ((decide (y16.Target ≥ 1)) && (decide (y16.Target < 33554432))) rfl hb71 rfl) ?_
                                      refine okL_nil ?_
                                      exact okX_meet (I := _) (y16.Reg == 0) (and_t hb71) (cc rfl (cc rfl (cc rfl (cc rfl (cc rfl (cc rfl (cc rfl (cc rfl (cc rfl cn))))))))) rfl
                                    · refine okL_skip 124 123 ((decide (y16.Target ≥ 1)) && (decide (y16.Target < 33554432))) rfl rfl hb71 rfl rfl ?_
                                      refine okL_skip 125 123 ((decide (y16.Target ≥ 1)) && (decide (y16.Target < 33554432))) rfl rfl hb71 rfl rfl ?_
                                      refine okL_skip 126 123 ((decide (y16.Target ≥ 1)) && (decide (y16.Target < 33554432))) rfl rfl hb71 rfl rfl ?_
                                      refine okL_step 127 (tB false) rfl rfl (does_pick_f ((decide (y16.Target ≥ 1)) && (decide (y16.Target < 33554432))) rfl hb71 rfl) ?_
                                      refine okL_nil ?_
                                      exact okX_meet (I := _) false (and_f hb71) (cc rfl (cc rfl (cc rfl (cc rfl (cc rfl (cc rfl (cc rfl (cc rfl (cc rfl cn))))))))) rfl
                                  · intro x74 hx
                                    subst hx
                                    change OkL _ _ _ _ [(1, (pAt g1 0)), (3, (Ty.val (.func (.func 101) #[] #[(.pointer (some ⟨g1, 0, none⟩))]))), (4, (Ty.val (.func (.func 102) #[] #[(.pointer (some ⟨g1, 0, none⟩))]))), (6, (pAt g18 0)), (9, (tB false)), (43, (tL 5 Block.ty a0.Blocks)), (44, (tI ((a0.Blocks).length : Int))), (45, (tI s13)), (127, (tB (((decide (y16.Target ≥ 1)) && (decide (y16.Target < 33554432))) && (y16.Reg == 0))))] (Item.blk g18 43 [(tL 6 VInstr.ty y16.Instrs), (tI y16.End), (tI y16.Reg), (tI y16.Target), (tI y16.Else)] :: Item.blk g1 27 [(tI a0.Params), (tI a0.Regs), (tL 5 Block.ty a0.Blocks)] :: L)
                                    refine okL_step 128 (tB (((decide (y16.Target ≥ 1)) && (decide (y16.Target < 33554432))) && (y16.Reg == 0))) rfl rfl (does_move rfl) ?_
                                    refine okL_meet (X := Bool) 4 (fun x => x = ((((decide (y16.Target ≥ 1)) && (decide (y16.Target < 33554432))) && (y16.Reg == 0)) && (y16.Else == 0))) (fun x : Bool => [(1, (pAt g1 0)), (3, (Ty.val (.func (.func 101) #[] #[(.pointer (some ⟨g1, 0, none⟩))]))), (4, (Ty.val (.func (.func 102) #[] #[(.pointer (some ⟨g1, 0, none⟩))]))), (9, (tB false)), (43, (tL 5 Block.ty a0.Blocks)), (44, (tI ((a0.Blocks).length : Int))), (45, (tI s13)), (132, (tB x))]) (fun x : Bool => Item.blk g18 43 [(tL 6 VInstr.ty y16.Instrs), (tI y16.End), (tI y16.Reg), (tI y16.Target), (tI y16.Else)] :: Item.blk g1 27 [(tI a0.Params), (tI a0.Regs), (tL 5 Block.ty a0.Blocks)] :: L) _ rfl ?_ ?_
                                    · refine okL_split (((decide (y16.Target ≥ 1)) && (decide (y16.Target < 33554432))) && (y16.Reg == 0)) (fun hb72 => ?_) (fun hb72 => ?_)
                                      · refine okL_guard 129 (pAt g18 4) 128 (((decide (y16.Target ≥ 1)) && (decide (y16.Target < 33554432))) && (y16.Reg == 0)) rfl rfl hb72 rfl rfl (does_fieldAddrP 4 Tryd.underlying43 rfl Tryd.sizeOf3 rfl rfl) ?_
                                        refine okL_guard 130 (tI y16.Else) 128 (((decide (y16.Target ≥ 1)) && (decide (y16.Target < 33554432))) && (y16.Reg == 0)) rfl rfl hb72 rfl rfl (does_loadB1 Tryd.isAgg3 rfl 0 rfl rfl) ?_
                                        refine okL_guard 131 (tB (y16.Else == 0)) 128 (((decide (y16.Target ≥ 1)) && (decide (y16.Target < 33554432))) && (y16.Reg == 0)) rfl rfl hb72 rfl rfl (does_eql rfl rfl) ?_
                                        refine okL_step 132 (tB (y16.Else == 0)) rfl rfl (does_pick_t (((decide (y16.Target ≥ 1)) && (decide (y16.Target < 33554432))) && (y16.Reg == 0)) rfl hb72 rfl) ?_
                                        refine okL_nil ?_
                                        exact okX_meet (I := _) (y16.Else == 0) (and_t hb72) (cc rfl (cc rfl (cc rfl (cc rfl (cc rfl (cc rfl (cc rfl (cc rfl cn)))))))) rfl
                                      · refine okL_skip 129 128 (((decide (y16.Target ≥ 1)) && (decide (y16.Target < 33554432))) && (y16.Reg == 0)) rfl rfl hb72 rfl rfl ?_
                                        refine okL_skip 130 128 (((decide (y16.Target ≥ 1)) && (decide (y16.Target < 33554432))) && (y16.Reg == 0)) rfl rfl hb72 rfl rfl ?_
                                        refine okL_skip 131 128 (((decide (y16.Target ≥ 1)) && (decide (y16.Target < 33554432))) && (y16.Reg == 0)) rfl rfl hb72 rfl rfl ?_
                                        refine okL_step 132 (tB false) rfl rfl (does_pick_f (((decide (y16.Target ≥ 1)) && (decide (y16.Target < 33554432))) && (y16.Reg == 0)) rfl hb72 rfl) ?_
                                        refine okL_nil ?_
                                        exact okX_meet (I := _) false (and_f hb72) (cc rfl (cc rfl (cc rfl (cc rfl (cc rfl (cc rfl (cc rfl (cc rfl cn)))))))) rfl
                                    · intro x73 hx
                                      subst hx
                                      change OkL _ _ _ _ [(1, (pAt g1 0)), (3, (Ty.val (.func (.func 101) #[] #[(.pointer (some ⟨g1, 0, none⟩))]))), (4, (Ty.val (.func (.func 102) #[] #[(.pointer (some ⟨g1, 0, none⟩))]))), (9, (tB false)), (43, (tL 5 Block.ty a0.Blocks)), (44, (tI ((a0.Blocks).length : Int))), (45, (tI s13)), (132, (tB ((((decide (y16.Target ≥ 1)) && (decide (y16.Target < 33554432))) && (y16.Reg == 0)) && (y16.Else == 0))))] (Item.blk g18 43 [(tL 6 VInstr.ty y16.Instrs), (tI y16.End), (tI y16.Reg), (tI y16.Target), (tI y16.Else)] :: Item.blk g1 27 [(tI a0.Params), (tI a0.Regs), (tL 5 Block.ty a0.Blocks)] :: L)
                                      refine okL_step 9 (tB ((((decide (y16.Target ≥ 1)) && (decide (y16.Target < 33554432))) && (y16.Reg == 0)) && (y16.Else == 0))) rfl rfl (does_assign rfl) ?_
                                      refine okL_nil ?_
                                      refine okX_block_normal ?_
                                      exact okX_meet (I := _) ((((decide (y16.Target ≥ 1)) && (decide (y16.Target < 33554432))) && (y16.Reg == 0)) && (y16.Else == 0)) (smh h37) (cc rfl (cc rfl (cc rfl (cc rfl (cc rfl (cc rfl (cc rfl cn))))))) rfl
                              · replace h37 := cf hb69 h37
                                refine okC_skip ?_
                                refine okX_block_normal ?_
                                exact okX_meet (I := _) false (smh h37) (cc rfl (cc rfl (cc rfl (cc rfl (cc rfl (cc rfl (cc rfl cn))))))) rfl
                      · intro s33 hx
                        change OkC _ _ _ [(1, (pAt g1 0)), (3, (Ty.val (.func (.func 101) #[] #[(.pointer (some ⟨g1, 0, none⟩))]))), (4, (Ty.val (.func (.func 102) #[] #[(.pointer (some ⟨g1, 0, none⟩))]))), (9, (tB s33)), (43, (tL 5 Block.ty a0.Blocks)), (44, (tI ((a0.Blocks).length : Int))), (45, (tI s13))] (Item.blk g18 43 [(tL 6 VInstr.ty y16.Instrs), (tI y16.End), (tI y16.Reg), (tI y16.Target), (tI y16.Else)] :: Item.blk g1 27 [(tI a0.Params), (tI a0.Regs), (tL 5 Block.ty a0.Blocks)] :: L)
                        obtain rfl : s33 = z35 := hx.symm
                        replace h := hz36
                        refine okC_seq ?_
                        refine okC_region ?_
                        refine okL_step 133 (tB s33) rfl rfl (does_move rfl) ?_
                        refine okL_step 134 (tB (!s33)) rfl rfl (does_not rfl) ?_
                        refine okL_nil ?_
                        refine okX_next ?_
                        refine okC_cond (b := (!s33)) rfl (fun hb76 => ?_) (fun hb76 => ?_)
                        · replace h := ct hb76 h
                          refine okC_seq ?_
                          refine okC_region ?_
                          refine okL_step 2 (tB false) rfl rfl (does_assign rfl) ?_
                          refine okL_nil ?_
                          refine okX_next ?_
                          refine okC_ret ?_
                          refine okX_block_ret ?_
                          refine okX_then_ret ?_
                          refine okX_again_ret ?_
                          refine okX_block_ret ?_
                          refine okX_meet_ret ?_
                          replace h := outh h hz11
                          refine okX_then_ret ?_
                          obtain rfl := (smh h).symm
                          refine okX_items [Item.blk g18 43 [(tL 6 VInstr.ty y16.Instrs), (tI y16.End), (tI y16.Reg), (tI y16.Target), (tI y16.Else)], Item.blk g1 27 [(tI a0.Params), (tI a0.Regs), (tL 5 Block.ty a0.Blocks)]] (L) (pm 0 rfl (pm 0 rfl (pr _))) ?_
                          exact okX_ret1 () Tryd.results63 rfl rfl
                        · replace h := cf hb76 h
                          refine okC_skip ?_
                          refine okX_block_normal ?_
                          refine okX_next ?_
                          refine okC_region ?_
                          refine okL_step 135 (tI (w64 (s13 + 1))) rfl rfl (does_add rfl rfl) ?_
                          refine okL_step 45 (tI (w64 (s13 + 1))) rfl rfl (does_move rfl) ?_
                          refine okL_nil ?_
                          refine okX_items [Item.blk g18 43 [(tL 6 VInstr.ty y16.Instrs), (tI y16.End), (tI y16.Reg), (tI y16.Target), (tI y16.Else)]] (Item.blk g1 27 [(tI a0.Params), (tI a0.Regs), (tL 5 Block.ty a0.Blocks)] :: L) (pm 0 rfl (pm 0 rfl (pr _))) ?_
                          exact okX_again k (Nat.lt_succ_self k) (w64 (s13 + 1)) h (cc rfl (cc rfl (cc rfl (cc rfl (cc rfl (cc rfl cn)))))) rfl
                  · replace h := cf hb15 h
                    refine okC_exit ?_
                    refine okX_then_exit ?_
                    refine okX_again_exit ?_
                    refine okX_block_hit ?_
                    exact okX_meet (I := _) () (innh h) cn rfl
              · intro s8 hx
                change OkX _ _ _ [] (Item.blk g1 27 [(tI a0.Params), (tI a0.Regs), (tL 5 Block.ty a0.Blocks)] :: L)
                have hx : z10 = .inl s8 := hx
                subst hx
                replace h := hz11
                refine okX_next ?_
                refine okC_seq ?_
                refine okC_region ?_
                refine okL_step 2 (tB true) rfl rfl (does_assign rfl) ?_
                refine okL_nil ?_
                refine okX_next ?_
                refine okC_ret ?_
                obtain rfl := (smh h).symm
                refine okX_items [Item.blk g1 27 [(tI a0.Params), (tI a0.Regs), (tL 5 Block.ty a0.Blocks)]] (L) (pm 0 rfl (pr _)) ?_
                exact okX_ret1 () Tryd.results63 rfl rfl

def ref29_Info  (a0 : Int) : Option (OpInfo × Bool) :=
  (Option.bind (ref29_form a0) (fun r2 => (cnd (r2 == 0) (some ((⟨⟨#[]⟩, 0, false, false, false, false, 0⟩ : OpInfo), false)) (Option.bind (ref29_names) (fun r5 => (Option.bind (idx r5 a0) (fun y7 => (Option.bind (cnd (a0 == 14) (some 3) (some 1)) (fun s10 => (Option.bind (cnd (((a0 == 11) || (a0 == 12)) || ((a0 == 15) || (a0 == 16))) (some true) (Option.bind (ref29_IsBinary a0) (fun r24 => (some r24)))) (fun x23 => (Option.bind (cnd (((a0 == 11) || (a0 == 12)) || ((a0 == 15) || (a0 == 16))) (some true) (Option.bind (ref29_IsBinary a0) (fun r38 => (some r38)))) (fun x37 => (Option.bind (cnd ((a0 == 11) || (a0 == 12)) (some true) (Option.bind (ref29_IsBinary a0) (fun r51 => (some r51)))) (fun x50 => (some ((⟨y7, r2, ((((((x23 || (a0 == 7)) || (a0 == 8)) || (a0 == 9)) || (a0 == 33)) || (a0 == 35)) || (a0 == 37)), ((((((x37 || (a0 == 10)) || (a0 == 13)) || (a0 == 14)) || (a0 == 33)) || (a0 == 34)) || (a0 == 36)), (((x50 || (a0 == 10)) || (a0 == 34)) || (a0 == 35)), (((((a0 == 4) || (a0 == 20)) || (a0 == 21)) || (a0 == 34)) || (a0 == 35)), s10⟩ : OpInfo), true)))))))))))))))))

theorem c_ref29_Info  (a0 : Int) (r : OpInfo × Bool) (h : ref29_Info  a0 = some r) : CallP Tryd.prog glob 99 [(tI a0)] (Ty.tup [(Ty.agg [(tS r.1.Name), (tI r.1.Form), (tB r.1.ReadsA), (tB r.1.WritesA), (tB r.1.ReadsB), (tB r.1.MayTrap), (tI r.1.Words)]), (tB r.2)]) := by
  refine call_of_code Tryd.func99 rfl Tryd.ntmps99 rfl (fun L w => ?_)
  change OkC _ _ _ [(0, (tI a0))] (L)
  unfold ref29_Info at h
  refine okC_seq ?_
  refine okC_region ?_
  refine okL_stepO 2 rfl rfl (doesO_alloc [(tS ⟨#[]⟩), (tI 0), (tB false), (tB false), (tB false), (tB false), (tI 0)] Tryd.zeroValue113 (part_of (sub_agg [(.string ⟨#[]⟩), (.int .i64 0), (.bool false), (.bool false), (.bool false), (.bool false), (.int .i64 0)] rfl) (part_agg _)) (fun g1 => ?_))
  refine okL_step 3 (tB false) rfl rfl (does_assign rfl) ?_
  refine okL_nil ?_
  refine okX_next ?_
  refine okC_seq ?_
  refine okC_region ?_
  refine okL_step 8 (tI a0) rfl rfl (does_move rfl) ?_
  obtain ⟨r2, hc3, h⟩ := bs h
  refine okL_step 9 (tI r2) rfl rfl (does_call0 (c_ref29_form a0 r2 hc3) rfl Tryd.call122 rfl) ?_
  refine okL_step 4 (tI r2) rfl rfl (does_assign rfl) ?_
  refine okL_nil ?_
  refine okX_next ?_
  refine okC_seq ?_
  refine okC_seq ?_
  refine okC_region ?_
  refine okL_step 10 (tI r2) rfl rfl (does_move rfl) ?_
  refine okL_step 11 (tB (r2 == 0)) rfl rfl (does_eql rfl rfl) ?_
  refine okL_nil ?_
  refine okX_next ?_
  refine okC_cond (b := (r2 == 0)) rfl (fun hb4 => ?_) (fun hb4 => ?_)
  · replace h := ct hb4 h
    refine okC_seq ?_
    refine okC_region ?_
    refine okL_step 12 (Ty.agg [(tS ⟨#[]⟩), (tI 0), (tB false), (tB false), (tB false), (tB false), (tI 0)]) rfl rfl (does_build [(tS ⟨#[]⟩), (tI 0), (tB false), (tB false), (tB false), (tB false), (tI 0)] Tryd.zeroValue113 Tryd.underlying113 (places113 _ Tryd.underlying113) rfl (fn_ rfl)) ?_
    refine okL_stepU rfl (doesO_storeB (ps := [(tS ⟨#[]⟩), (tI 0), (tB false), (tB false), (tB false), (tB false), (tI 0)]) 0 [(tS ⟨#[]⟩), (tI 0), (tB false), (tB false), (tB false), (tB false), (tI 0)] (Item.blk g1 113 [(tS ⟨#[]⟩), (tI 0), (tB false), (tB false), (tB false), (tB false), (tI 0)] :: L) rfl rfl (part_agg _) Tryd.sizeOf113 rfl rfl rfl rfl ?_)
    refine okL_step 3 (tB false) rfl rfl (does_assign rfl) ?_
    refine okL_nil ?_
    refine okX_next ?_
    refine okC_ret ?_
    refine okX_then_ret ?_
    obtain rfl := (smh h).symm
    exact okX_retCT () Tryd.results99 rfl rfl 0 rfl Tryd.isAgg113 Tryd.sizeOf113 rfl rfl [Item.blk g1 113 [(tS ⟨#[]⟩), (tI 0), (tB false), (tB false), (tB false), (tB false), (tI 0)]] (pm 0 rfl (pr _))
  · replace h := cf hb4 h
    refine okC_skip ?_
    refine okX_next ?_
    refine okC_seq ?_
    refine okC_region ?_
    obtain ⟨r5, hc6, h⟩ := bs h
    refine okL_step 13 (tL 1 lS r5) rfl rfl (does_call0 (c_ref29_names r5 hc6) rfl Tryd.call123 rfl) ?_
    refine okL_step 14 (tI a0) rfl rfl (does_move rfl) ?_
    obtain ⟨y7, hi8, h⟩ := bs h
    refine okL_step 15 (Ty.ptr [(tS y7)]) rfl rfl (does_index (sz := 1) (f := lS) (l := r5) (n := a0) y7 Tryd.underlying156 Tryd.sizeOf9 hi8 rfl rfl) ?_
    refine okL_step 16 (tS y7) rfl rfl (does_load1 Tryd.isAgg9 rfl) ?_
    refine okL_step 17 (tI r2) rfl rfl (does_move rfl) ?_
    refine okL_step 18 (Ty.agg [(tS y7), (tI r2), (tB false), (tB false), (tB false), (tB false), (tI 1)]) rfl rfl (does_build [(tS y7), (tI r2), (tB false), (tB false), (tB false), (tB false), (tI 1)] Tryd.zeroValue113 Tryd.underlying113 (places113 _ Tryd.underlying113) rfl (fc [(tS y7)] 0 rfl (part_one (one_s _)) rfl rfl (fc [(tI r2)] 1 rfl (part_one (one_i _)) rfl rfl (fc [(tI 1)] 6 rfl (part_one (one_i _)) rfl rfl (fn_ rfl))))) ?_
    refine okL_stepO 5 rfl rfl (doesO_alloc [(tS ⟨#[]⟩), (tI 0), (tB false), (tB false), (tB false), (tB false), (tI 0)] Tryd.zeroValue113 (part_of (sub_agg [(.string ⟨#[]⟩), (.int .i64 0), (.bool false), (.bool false), (.bool false), (.bool false), (.int .i64 0)] rfl) (part_agg _)) (fun g9 => ?_))
    refine okL_stepU rfl (doesO_storeB (ps := [(tS y7), (tI r2), (tB false), (tB false), (tB false), (tB false), (tI 1)]) 0 [(tS y7), (tI r2), (tB false), (tB false), (tB false), (tB false), (tI 1)] (Item.blk g9 113 [(tS y7), (tI r2), (tB false), (tB false), (tB false), (tB false), (tI 1)] :: Item.blk g1 113 [(tS ⟨#[]⟩), (tI 0), (tB false), (tB false), (tB false), (tB false), (tI 0)] :: L) rfl rfl (part_agg _) Tryd.sizeOf113 rfl rfl rfl rfl ?_)
    refine okL_nil ?_
    refine okX_next ?_
    obtain ⟨z12, h14, hz13⟩ := bs h
    refine okC_meet (X := Int) (fun x => z12 = x) (fun x : Int => [(0, (tI a0)), (2, (pAt g1 0)), (5, (pAt g9 0))]) (fun x : Int => Item.blk g9 113 [(tS y7), (tI r2), (tB false), (tB false), (tB false), (tB false), (tI x)] :: Item.blk g1 113 [(tS ⟨#[]⟩), (tI 0), (tB false), (tB false), (tB false), (tB false), (tI 0)] :: L) ?_ ?_
    · refine okC_seq ?_
      refine okC_region ?_
      refine okL_step 19 (tI a0) rfl rfl (does_move rfl) ?_
      refine okL_step 20 (tB (a0 == 14)) rfl rfl (does_eql rfl rfl) ?_
      refine okL_nil ?_
      refine okX_next ?_
      refine okC_cond (b := (a0 == 14)) rfl (fun hb15 => ?_) (fun hb15 => ?_)
      · replace h14 := ct hb15 h14
        refine okC_region ?_
        refine okL_step 21 (pAt g9 6) rfl rfl (does_fieldAddrP 6 Tryd.underlying113 rfl Tryd.sizeOf3 rfl rfl) ?_
        refine okL_stepU rfl (doesO_storeB (ps := [(tI 3)]) 0 [(tS y7), (tI r2), (tB false), (tB false), (tB false), (tB false), (tI 3)] (Item.blk g9 113 [(tS y7), (tI r2), (tB false), (tB false), (tB false), (tB false), (tI 3)] :: Item.blk g1 113 [(tS ⟨#[]⟩), (tI 0), (tB false), (tB false), (tB false), (tB false), (tI 0)] :: L) rfl rfl (part_one (one_i _)) Tryd.sizeOf3 rfl rfl rfl rfl ?_)
        refine okL_nil ?_
        exact okX_meet (I := _) 3 (smh h14) (cc rfl (cc rfl (cc rfl cn))) rfl
      · replace h14 := cf hb15 h14
        refine okC_skip ?_
        exact okX_meet (I := _) 1 (smh h14) (cc rfl (cc rfl (cc rfl cn))) rfl
    · intro s10 hx
      change OkC _ _ _ [(0, (tI a0)), (2, (pAt g1 0)), (5, (pAt g9 0))] (Item.blk g9 113 [(tS y7), (tI r2), (tB false), (tB false), (tB false), (tB false), (tI s10)] :: Item.blk g1 113 [(tS ⟨#[]⟩), (tI 0), (tB false), (tB false), (tB false), (tB false), (tI 0)] :: L)
      obtain rfl : s10 = z12 := hx.symm
      replace h := hz13
      refine okC_seq ?_
      refine okC_region ?_
      refine okL_step 22 (tI a0) rfl rfl (does_move rfl) ?_
      refine okL_step 23 (tB (a0 == 11)) rfl rfl (does_eql rfl rfl) ?_
      refine okL_step 24 (tB (a0 == 11)) rfl rfl (does_move rfl) ?_
      refine okL_meet (X := Bool) 3 (fun x => x = ((a0 == 11) || (a0 == 12))) (fun x : Bool => [(0, (tI a0)), (2, (pAt g1 0)), (5, (pAt g9 0)), (27, (tB x))]) (fun x : Bool => Item.blk g9 113 [(tS y7), (tI r2), (tB false), (tB false), (tB false), (tB false), (tI s10)] :: Item.blk g1 113 [(tS ⟨#[]⟩), (tI 0), (tB false), (tB false), (tB false), (tB false), (tI 0)] :: L) _ rfl ?_ ?_
      · refine okL_split (a0 == 11) (fun hb16 => ?_) (fun hb16 => ?_)
        · refine okL_skip 25 24 (a0 == 11) rfl rfl hb16 rfl rfl ?_
          refine okL_skip 26 24 (a0 == 11) rfl rfl hb16 rfl rfl ?_
          refine okL_step 27 (tB true) rfl rfl (does_pick_t (a0 == 11) rfl hb16 rfl) ?_
          refine okL_nil ?_
          exact okX_meet (I := _) true (or_t hb16) (cc rfl (cc rfl (cc rfl (cc rfl cn)))) rfl
        · refine okL_guard 25 (tI a0) 24 (a0 == 11) rfl rfl hb16 rfl rfl (does_move rfl) ?_
          refine okL_guard 26 (tB (a0 == 12)) 24 (a0 == 11) rfl rfl hb16 rfl rfl (does_eql rfl rfl) ?_
          refine okL_step 27 (tB (a0 == 12)) rfl rfl (does_pick_f (a0 == 11) rfl hb16 rfl) ?_
          refine okL_nil ?_
          exact okX_meet (I := _) (a0 == 12) (or_f hb16) (cc rfl (cc rfl (cc rfl (cc rfl cn)))) rfl
      · intro x82 hx
        subst hx
        change OkL _ _ _ _ [(0, (tI a0)), (2, (pAt g1 0)), (5, (pAt g9 0)), (27, (tB ((a0 == 11) || (a0 == 12))))] (Item.blk g9 113 [(tS y7), (tI r2), (tB false), (tB false), (tB false), (tB false), (tI s10)] :: Item.blk g1 113 [(tS ⟨#[]⟩), (tI 0), (tB false), (tB false), (tB false), (tB false), (tI 0)] :: L)
        refine okL_step 6 (tB ((a0 == 11) || (a0 == 12))) rfl rfl (does_assign rfl) ?_
        refine okL_nil ?_
        refine okX_next ?_
        refine okC_seq ?_
        refine okC_region ?_
        refine okL_step 28 (tI a0) rfl rfl (does_move rfl) ?_
        refine okL_step 29 (tB (a0 == 15)) rfl rfl (does_eql rfl rfl) ?_
        refine okL_step 30 (tB (a0 == 15)) rfl rfl (does_move rfl) ?_
        refine okL_meet (X := Bool) 3 (fun x => x = ((a0 == 15) || (a0 == 16))) (fun x : Bool => [(0, (tI a0)), (2, (pAt g1 0)), (5, (pAt g9 0)), (6, (tB ((a0 == 11) || (a0 == 12)))), (33, (tB x))]) (fun x : Bool => Item.blk g9 113 [(tS y7), (tI r2), (tB false), (tB false), (tB false), (tB false), (tI s10)] :: Item.blk g1 113 [(tS ⟨#[]⟩), (tI 0), (tB false), (tB false), (tB false), (tB false), (tI 0)] :: L) _ rfl ?_ ?_
        · refine okL_split (a0 == 15) (fun hb17 => ?_) (fun hb17 => ?_)
          · refine okL_skip 31 30 (a0 == 15) rfl rfl hb17 rfl rfl ?_
            refine okL_skip 32 30 (a0 == 15) rfl rfl hb17 rfl rfl ?_
            refine okL_step 33 (tB true) rfl rfl (does_pick_t (a0 == 15) rfl hb17 rfl) ?_
            refine okL_nil ?_
            exact okX_meet (I := _) true (or_t hb17) (cc rfl (cc rfl (cc rfl (cc rfl (cc rfl cn))))) rfl
          · refine okL_guard 31 (tI a0) 30 (a0 == 15) rfl rfl hb17 rfl rfl (does_move rfl) ?_
            refine okL_guard 32 (tB (a0 == 16)) 30 (a0 == 15) rfl rfl hb17 rfl rfl (does_eql rfl rfl) ?_
            refine okL_step 33 (tB (a0 == 16)) rfl rfl (does_pick_f (a0 == 15) rfl hb17 rfl) ?_
            refine okL_nil ?_
            exact okX_meet (I := _) (a0 == 16) (or_f hb17) (cc rfl (cc rfl (cc rfl (cc rfl (cc rfl cn))))) rfl
        · intro x81 hx
          subst hx
          change OkL _ _ _ _ [(0, (tI a0)), (2, (pAt g1 0)), (5, (pAt g9 0)), (6, (tB ((a0 == 11) || (a0 == 12)))), (33, (tB ((a0 == 15) || (a0 == 16))))] (Item.blk g9 113 [(tS y7), (tI r2), (tB false), (tB false), (tB false), (tB false), (tI s10)] :: Item.blk g1 113 [(tS ⟨#[]⟩), (tI 0), (tB false), (tB false), (tB false), (tB false), (tI 0)] :: L)
          refine okL_step 7 (tB ((a0 == 15) || (a0 == 16))) rfl rfl (does_assign rfl) ?_
          refine okL_nil ?_
          refine okX_next ?_
          refine okC_seq ?_
          refine okC_region ?_
          refine okL_step 34 (tB ((a0 == 11) || (a0 == 12))) rfl rfl (does_move rfl) ?_
          refine okL_step 35 (tB ((a0 == 11) || (a0 == 12))) rfl rfl (does_move rfl) ?_
          refine okL_meet (X := Bool) 2 (fun x => x = (((a0 == 11) || (a0 == 12)) || ((a0 == 15) || (a0 == 16)))) (fun x : Bool => [(0, (tI a0)), (2, (pAt g1 0)), (5, (pAt g9 0)), (6, (tB ((a0 == 11) || (a0 == 12)))), (7, (tB ((a0 == 15) || (a0 == 16)))), (37, (tB x))]) (fun x : Bool => Item.blk g9 113 [(tS y7), (tI r2), (tB false), (tB false), (tB false), (tB false), (tI s10)] :: Item.blk g1 113 [(tS ⟨#[]⟩), (tI 0), (tB false), (tB false), (tB false), (tB false), (tI 0)] :: L) _ rfl ?_ ?_
          · refine okL_split ((a0 == 11) || (a0 == 12)) (fun hb18 => ?_) (fun hb18 => ?_)
            · refine okL_skip 36 35 ((a0 == 11) || (a0 == 12)) rfl rfl hb18 rfl rfl ?_
              refine okL_step 37 (tB true) rfl rfl (does_pick_t ((a0 == 11) || (a0 == 12)) rfl hb18 rfl) ?_
              refine okL_nil ?_
              exact okX_meet (I := _) true (or_t hb18) (cc rfl (cc rfl (cc rfl (cc rfl (cc rfl (cc rfl cn)))))) rfl
            · refine okL_guard 36 (tB ((a0 == 15) || (a0 == 16))) 35 ((a0 == 11) || (a0 == 12)) rfl rfl hb18 rfl rfl (does_move rfl) ?_
              refine okL_step 37 (tB ((a0 == 15) || (a0 == 16))) rfl rfl (does_pick_f ((a0 == 11) || (a0 == 12)) rfl hb18 rfl) ?_
              refine okL_nil ?_
              exact okX_meet (I := _) ((a0 == 15) || (a0 == 16)) (or_f hb18) (cc rfl (cc rfl (cc rfl (cc rfl (cc rfl (cc rfl cn)))))) rfl
          · intro x80 hx
            subst hx
            change OkL _ _ _ _ [(0, (tI a0)), (2, (pAt g1 0)), (5, (pAt g9 0)), (6, (tB ((a0 == 11) || (a0 == 12)))), (7, (tB ((a0 == 15) || (a0 == 16)))), (37, (tB (((a0 == 11) || (a0 == 12)) || ((a0 == 15) || (a0 == 16)))))] (Item.blk g9 113 [(tS y7), (tI r2), (tB false), (tB false), (tB false), (tB false), (tI s10)] :: Item.blk g1 113 [(tS ⟨#[]⟩), (tI 0), (tB false), (tB false), (tB false), (tB false), (tI 0)] :: L)
            refine okL_step 38 (tB (((a0 == 11) || (a0 == 12)) || ((a0 == 15) || (a0 == 16)))) rfl rfl (does_move rfl) ?_
            obtain ⟨z20, h22, hz21⟩ := bs h
            refine okL_meet (X := Bool) 3 (fun x => z20 = x) (fun x : Bool => [(0, (tI a0)), (2, (pAt g1 0)), (5, (pAt g9 0)), (6, (tB ((a0 == 11) || (a0 == 12)))), (7, (tB ((a0 == 15) || (a0 == 16)))), (41, (tB x))]) (fun x : Bool => Item.blk g9 113 [(tS y7), (tI r2), (tB false), (tB false), (tB false), (tB false), (tI s10)] :: Item.blk g1 113 [(tS ⟨#[]⟩), (tI 0), (tB false), (tB false), (tB false), (tB false), (tI 0)] :: L) _ rfl ?_ ?_
            · refine okL_split (((a0 == 11) || (a0 == 12)) || ((a0 == 15) || (a0 == 16))) (fun hb19 => ?_) (fun hb19 => ?_)
              · replace h22 := ct hb19 h22
                refine okL_skip 39 38 (((a0 == 11) || (a0 == 12)) || ((a0 == 15) || (a0 == 16))) rfl rfl hb19 rfl rfl ?_
                refine okL_skip 40 38 (((a0 == 11) || (a0 == 12)) || ((a0 == 15) || (a0 == 16))) rfl rfl hb19 rfl rfl ?_
                refine okL_step 41 (tB true) rfl rfl (does_pick_t (((a0 == 11) || (a0 == 12)) || ((a0 == 15) || (a0 == 16))) rfl hb19 rfl) ?_
                refine okL_nil ?_
                exact okX_meet (I := _) true (smh h22) (cc rfl (cc rfl (cc rfl (cc rfl (cc rfl (cc rfl cn)))))) rfl
              · replace h22 := cf hb19 h22
                refine okL_guard 39 (tI a0) 38 (((a0 == 11) || (a0 == 12)) || ((a0 == 15) || (a0 == 16))) rfl rfl hb19 rfl rfl (does_move rfl) ?_
                obtain ⟨r24, hc25, h22⟩ := bs h22
                refine okL_guard 40 (tB r24) 38 (((a0 == 11) || (a0 == 12)) || ((a0 == 15) || (a0 == 16))) rfl rfl hb19 rfl rfl (does_call0 (c_ref29_IsBinary a0 r24 hc25) rfl Tryd.call124 rfl) ?_
                refine okL_step 41 (tB r24) rfl rfl (does_pick_f (((a0 == 11) || (a0 == 12)) || ((a0 == 15) || (a0 == 16))) rfl hb19 rfl) ?_
                refine okL_nil ?_
                exact okX_meet (I := _) r24 (smh h22) (cc rfl (cc rfl (cc rfl (cc rfl (cc rfl (cc rfl cn)))))) rfl
            · intro x23 hx
              obtain rfl : x23 = z20 := hx.symm
              replace h := hz21
              change OkL _ _ _ _ [(0, (tI a0)), (2, (pAt g1 0)), (5, (pAt g9 0)), (6, (tB ((a0 == 11) || (a0 == 12)))), (7, (tB ((a0 == 15) || (a0 == 16)))), (41, (tB x23))] (Item.blk g9 113 [(tS y7), (tI r2), (tB false), (tB false), (tB false), (tB false), (tI s10)] :: Item.blk g1 113 [(tS ⟨#[]⟩), (tI 0), (tB false), (tB false), (tB false), (tB false), (tI 0)] :: L)
              refine okL_step 42 (tB x23) rfl rfl (does_move rfl) ?_
              refine okL_meet (X := Bool) 3 (fun x => x = (x23 || (a0 == 7))) (fun x : Bool => [(0, (tI a0)), (2, (pAt g1 0)), (5, (pAt g9 0)), (6, (tB ((a0 == 11) || (a0 == 12)))), (7, (tB ((a0 == 15) || (a0 == 16)))), (45, (tB x))]) (fun x : Bool => Item.blk g9 113 [(tS y7), (tI r2), (tB false), (tB false), (tB false), (tB false), (tI s10)] :: Item.blk g1 113 [(tS ⟨#[]⟩), (tI 0), (tB false), (tB false), (tB false), (tB false), (tI 0)] :: L) _ rfl ?_ ?_
              · refine okL_split x23 (fun hb26 => ?_) (fun hb26 => ?_)
                · refine okL_skip 43 42 x23 rfl rfl hb26 rfl rfl ?_
                  refine okL_skip 44 42 x23 rfl rfl hb26 rfl rfl ?_
                  refine okL_step 45 (tB true) rfl rfl (does_pick_t x23 rfl hb26 rfl) ?_
                  refine okL_nil ?_
                  exact okX_meet (I := _) true (or_t hb26) (cc rfl (cc rfl (cc rfl (cc rfl (cc rfl (cc rfl cn)))))) rfl
                · refine okL_guard 43 (tI a0) 42 x23 rfl rfl hb26 rfl rfl (does_move rfl) ?_
                  refine okL_guard 44 (tB (a0 == 7)) 42 x23 rfl rfl hb26 rfl rfl (does_eql rfl rfl) ?_
                  refine okL_step 45 (tB (a0 == 7)) rfl rfl (does_pick_f x23 rfl hb26 rfl) ?_
                  refine okL_nil ?_
                  exact okX_meet (I := _) (a0 == 7) (or_f hb26) (cc rfl (cc rfl (cc rfl (cc rfl (cc rfl (cc rfl cn)))))) rfl
              · intro x79 hx
                subst hx
                change OkL _ _ _ _ [(0, (tI a0)), (2, (pAt g1 0)), (5, (pAt g9 0)), (6, (tB ((a0 == 11) || (a0 == 12)))), (7, (tB ((a0 == 15) || (a0 == 16)))), (45, (tB (x23 || (a0 == 7))))] (Item.blk g9 113 [(tS y7), (tI r2), (tB false), (tB false), (tB false), (tB false), (tI s10)] :: Item.blk g1 113 [(tS ⟨#[]⟩), (tI 0), (tB false), (tB false), (tB false), (tB false), (tI 0)] :: L)
                refine okL_step 46 (tB (x23 || (a0 == 7))) rfl rfl (does_move rfl) ?_
                refine okL_meet (X := Bool) 3 (fun x => x = ((x23 || (a0 == 7)) || (a0 == 8))) (fun x : Bool => [(0, (tI a0)), (2, (pAt g1 0)), (5, (pAt g9 0)), (6, (tB ((a0 == 11) || (a0 == 12)))), (7, (tB ((a0 == 15) || (a0 == 16)))), (49, (tB x))]) (fun x : Bool => Item.blk g9 113 [(tS y7), (tI r2), (tB false), (tB false), (tB false), (tB false), (tI s10)] :: Item.blk g1 113 [(tS ⟨#[]⟩), (tI 0), (tB false), (tB false), (tB false), (tB false), (tI 0)] :: L) _ rfl ?_ ?_
                · refine okL_split (x23 || (a0 == 7)) (fun hb27 => ?_) (fun hb27 => ?_)
                  · refine okL_skip 47 46 (x23 || (a0 == 7)) rfl rfl hb27 rfl rfl ?_
                    refine okL_skip 48 46 (x23 || (a0 == 7)) rfl rfl hb27 rfl rfl ?_
                    refine okL_step 49 (tB true) rfl rfl (does_pick_t (x23 || (a0 == 7)) rfl hb27 rfl) ?_
                    refine okL_nil ?_
                    exact okX_meet (I := _) true (or_t hb27) (cc rfl (cc rfl (cc rfl (cc rfl (cc rfl (cc rfl cn)))))) rfl
                  · refine okL_guard 47 (tI a0) 46 (x23 || (a0 == 7)) rfl rfl hb27 rfl rfl (does_move rfl) ?_
                    refine okL_guard 48 (tB (a0 == 8)) 46 (x23 || (a0 == 7)) rfl rfl hb27 rfl rfl (does_eql rfl rfl) ?_
                    refine okL_step 49 (tB (a0 == 8)) rfl rfl (does_pick_f (x23 || (a0 == 7)) rfl hb27 rfl) ?_
                    refine okL_nil ?_
                    exact okX_meet (I := _) (a0 == 8) (or_f hb27) (cc rfl (cc rfl (cc rfl (cc rfl (cc rfl (cc rfl cn)))))) rfl
                · intro x78 hx
                  subst hx
                  change OkL _ _ _ _ [(0, (tI a0)), (2, (pAt g1 0)), (5, (pAt g9 0)), (6, (tB ((a0 == 11) || (a0 == 12)))), (7, (tB ((a0 == 15) || (a0 == 16)))), (49, (tB ((x23 || (a0 == 7)) || (a0 == 8))))] (Item.blk g9 113 [(tS y7), (tI r2), (tB false), (tB false), (tB false), (tB false), (tI s10)] :: Item.blk g1 113 [(tS ⟨#[]⟩), (tI 0), (tB false), (tB false), (tB false), (tB false), (tI 0)] :: L)
                  refine okL_step 50 (tB ((x23 || (a0 == 7)) || (a0 == 8))) rfl rfl (does_move rfl) ?_
                  refine okL_meet (X := Bool) 3 (fun x => x = (((x23 || (a0 == 7)) || (a0 == 8)) || (a0 == 9))) (fun x : Bool => [(0, (tI a0)), (2, (pAt g1 0)), (5, (pAt g9 0)), (6, (tB ((a0 == 11) || (a0 == 12)))), (7, (tB ((a0 == 15) || (a0 == 16)))), (53, (tB x))]) (fun x : Bool => Item.blk g9 113 [(tS y7), (tI r2), (tB false), (tB false), (tB false), (tB false), (tI s10)] :: Item.blk g1 113 [(tS ⟨#[]⟩), (tI 0), (tB false), (tB false), (tB false), (tB false), (tI 0)] :: L) _ rfl ?_ ?_
                  · refine okL_split ((x23 || (a0 == 7)) || (a0 == 8)) (fun hb28 => ?_) (fun hb28 => ?_)
                    · refine okL_skip 51 50 ((x23 || (a0 == 7)) || (a0 == 8)) rfl rfl hb28 rfl rfl ?_
                      refine okL_skip 52 50 ((x23 || (a0 == 7)) || (a0 == 8)) rfl rfl hb28 rfl rfl ?_
                      refine okL_step 53 (tB true) rfl rfl (does_pick_t ((x23 || (a0 == 7)) || (a0 == 8)) rfl hb28 rfl) ?_
                      refine okL_nil ?_
                      exact okX_meet (I := _) true (or_t hb28) (cc rfl (cc rfl (cc rfl (cc rfl (cc rfl (cc rfl cn)))))) rfl
                    · refine okL_guard 51 (tI a0) 50 ((x23 || (a0 == 7)) || (a0 == 8)) rfl rfl hb28 rfl rfl (does_move rfl) ?_
                      refine okL_guard 52 (tB (a0 == 9)) 50 ((x23 || (a0 == 7)) || (a0 == 8)) rfl rfl hb28 rfl rfl (does_eql rfl rfl) ?_
                      refine okL_step 53 (tB (a0 == 9)) rfl rfl (does_pick_f ((x23 || (a0 == 7)) || (a0 == 8)) rfl hb28 rfl) ?_
                      refine okL_nil ?_
                      exact okX_meet (I := _) (a0 == 9) (or_f hb28) (cc rfl (cc rfl (cc rfl (cc rfl (cc rfl (cc rfl cn)))))) rfl
                  · intro x77 hx
                    subst hx
                    change OkL _ _ _ _ [(0, (tI a0)), (2, (pAt g1 0)), (5, (pAt g9 0)), (6, (tB ((a0 == 11) || (a0 == 12)))), (7, (tB ((a0 == 15) || (a0 == 16)))), (53, (tB (((x23 || (a0 == 7)) || (a0 == 8)) || (a0 == 9))))] (Item.blk g9 113 [(tS y7), (tI r2), (tB false), (tB false), (tB false), (tB false), (tI s10)] :: Item.blk g1 113 [(tS ⟨#[]⟩), (tI 0), (tB false), (tB false), (tB false), (tB false), (tI 0)] :: L)
                    refine okL_step 54 (tB (((x23 || (a0 == 7)) || (a0 == 8)) || (a0 == 9))) rfl rfl (does_move rfl) ?_
                    refine okL_meet (X := Bool) 3 (fun x => x = ((((x23 || (a0 == 7)) || (a0 == 8)) || (a0 == 9)) || (a0 == 33))) (fun x : Bool => [(0, (tI a0)), (2, (pAt g1 0)), (5, (pAt g9 0)), (6, (tB ((a0 == 11) || (a0 == 12)))), (7, (tB ((a0 == 15) || (a0 == 16)))), (57, (tB x))]) (fun x : Bool => Item.blk g9 113 [(tS y7), (tI r2), (tB false), (tB false), (tB false), (tB false), (tI s10)] :: Item.blk g1 113 [(tS ⟨#[]⟩), (tI 0), (tB false), (tB false), (tB false), (tB false), (tI 0)] :: L) _ rfl ?_ ?_
                    · refine okL_split (((x23 || (a0 == 7)) || (a0 == 8)) || (a0 == 9)) (fun hb29 => ?_) (fun hb29 => ?_)
                      · refine okL_skip 55 54 (((x23 || (a0 == 7)) || (a0 == 8)) || (a0 == 9)) rfl rfl hb29 rfl rfl ?_
                        refine okL_skip 56 54 (((x23 || (a0 == 7)) || (a0 == 8)) || (a0 == 9)) rfl rfl hb29 rfl rfl ?_
                        refine okL_step 57 (tB true) rfl rfl (does_pick_t (((x23 || (a0 == 7)) || (a0 == 8)) || (a0 == 9)) rfl hb29 rfl) ?_
                        refine okL_nil ?_
                        exact okX_meet (I := _) true (or_t hb29) (cc rfl (cc rfl (cc rfl (cc rfl (cc rfl (cc rfl cn)))))) rfl
                      · refine okL_guard 55 (tI a0) 54 (((x23 || (a0 == 7)) || (a0 == 8)) || (a0 == 9)) rfl rfl hb29 rfl rfl (does_move rfl) ?_
                        refine okL_guard 56 (tB (a0 == 33)) 54 (((x23 || (a0 == 7)) || (a0 == 8)) || (a0 == 9)) rfl rfl hb29 rfl rfl (does_eql rfl rfl) ?_
                        refine okL_step 57 (tB (a0 == 33)) rfl rfl (does_pick_f (((x23 || (a0 == 7)) || (a0 == 8)) || (a0 == 9)) rfl hb29 rfl) ?_
                        refine okL_nil ?_
                        exact okX_meet (I := _) (a0 == 33) (or_f hb29) (cc rfl (cc rfl (cc rfl (cc rfl (cc rfl (cc rfl cn)))))) rfl
                    · intro x76 hx
                      subst hx
                      change OkL _ _ _ _ [(0, (tI a0)), (2, (pAt g1 0)), (5, (pAt g9 0)), (6, (tB ((a0 == 11) || (a0 == 12)))), (7, (tB ((a0 == 15) || (a0 == 16)))), (57, (tB ((((x23 || (a0 == 7)) || (a0 == 8)) || (a0 == 9)) || (a0 == 33))))] (Item.blk g9 113 [(tS y7), (tI r2), (tB false), (tB false), (tB false), (tB false), (tI s10)] :: Item.blk g1 113 [(tS ⟨#[]⟩), (tI 0), (tB false), (tB false), (tB false), (tB false), (tI 0)] :: L)
                      refine okL_step 58 (tB ((((x23 || (a0 == 7)) || (a0 == 8)) || (a0 == 9)) || (a0 == 33))) rfl rfl (does_move rfl) ?_
                      refine okL_meet (X := Bool) 3 (fun x => x = (((((x23 || (a0 == 7)) || (a0 == 8)) || (a0 == 9)) || (a0 == 33)) || (a0 == 35))) (fun x : Bool => [(0, (tI a0)), (2, (pAt g1 0)), (5, (pAt g9 0)), (6, (tB ((a0 == 11) || (a0 == 12)))), (7, (tB ((a0 == 15) || (a0 == 16)))), (61, (tB x))]) (fun x : Bool => Item.blk g9 113 [(tS y7), (tI r2), (tB false), (tB false), (tB false), (tB false), (tI s10)] :: Item.blk g1 113 [(tS ⟨#[]⟩), (tI 0), (tB false), (tB false), (tB false), (tB false), (tI 0)] :: L) _ rfl ?_ ?_
                      · refine okL_split ((((x23 || (a0 == 7)) || (a0 == 8)) || (a0 == 9)) || (a0 == 33)) (fun hb30 => ?_) (fun hb30 => ?_)
                        · refine okL_skip 59 58 ((((x23 || (a0 == 7)) || (a0 == 8)) || (a0 == 9)) || (a0 == 33)) rfl rfl hb30 rfl rfl ?_
                          refine okL_skip 60 58 ((((x23 || (a0 == 7)) || (a0 == 8)) || (a0 == 9)) || (a0 == 33)) rfl rfl hb30 rfl rfl ?_
                          refine okL_step 61 (tB true) rfl rfl (does_pick_t ((((x23 || (a0 == 7)) || (a0 == 8)) || (a0 == 9)) || (a0 == 33)) rfl hb30 rfl) ?_
                          refine okL_nil ?_
                          exact okX_meet (I := _) true (or_t hb30) (cc rfl (cc rfl (cc rfl (cc rfl (cc rfl (cc rfl cn)))))) rfl
                        · refine okL_guard 59 (tI a0) 58 ((((x23 || (a0 == 7)) || (a0 == 8)) || (a0 == 9)) || (a0 == 33)) rfl rfl hb30 rfl rfl (does_move rfl) ?_
                          refine okL_guard 60 (tB (a0 == 35)) 58 ((((x23 || (a0 == 7)) || (a0 == 8)) || (a0 == 9)) || (a0 == 33)) rfl rfl hb30 rfl rfl (does_eql rfl rfl) ?_
                          refine okL_step 61 (tB (a0 == 35)) rfl rfl (does_pick_f ((((x23 || (a0 == 7)) || (a0 == 8)) || (a0 == 9)) || (a0 == 33)) rfl hb30 rfl) ?_
                          refine okL_nil ?_
                          exact okX_meet (I := _) (a0 == 35) (or_f hb30) (cc rfl (cc rfl (cc rfl (cc rfl (cc rfl (cc rfl cn)))))) rfl
                      · intro x75 hx
                        subst hx
                        change OkL _ _ _ _ [(0, (tI a0)), (2, (pAt g1 0)), (5, (pAt g9 0)), (6, (tB ((a0 == 11) || (a0 == 12)))), (7, (tB ((a0 == 15) || (a0 == 16)))), (61, (tB (((((x23 || (a0 == 7)) || (a0 == 8)) || (a0 == 9)) || (a0 == 33)) || (a0 == 35))))] (Item.blk g9 113 [(tS y7), (tI r2), (tB false), (tB false), (tB false), (tB false), (tI s10)] :: Item.blk g1 113 [(tS ⟨#[]⟩), (tI 0), (tB false), (tB false), (tB false), (tB false), (tI 0)] :: L)
                        refine okL_step 62 (tB (((((x23 || (a0 == 7)) || (a0 == 8)) || (a0 == 9)) || (a0 == 33)) || (a0 == 35))) rfl rfl (does_move rfl) ?_
                        refine okL_meet (X := Bool) 3 (fun x => x = ((((((x23 || (a0 == 7)) || (a0 == 8)) || (a0 == 9)) || (a0 == 33)) || (a0 == 35)) || (a0 == 37))) (fun x : Bool => [(0, (tI a0)), (2, (pAt g1 0)), (5, (pAt g9 0)), (6, (tB ((a0 == 11) || (a0 == 12)))), (7, (tB ((a0 == 15) || (a0 == 16)))), (65, (tB x))]) (fun x : Bool => Item.blk g9 113 [(tS y7), (tI r2), (tB false), (tB false), (tB false), (tB false), (tI s10)] :: Item.blk g1 113 [(tS ⟨#[]⟩), (tI 0), (tB false), (tB false), (tB false), (tB false), (tI 0)] :: L) _ rfl ?_ ?_
                        · refine okL_split (((((x23 || (a0 == 7)) || (a0 == 8)) || (a0 == 9)) || (a0 == 33)) || (a0 == 35)) (fun hb31 => ?_) (fun hb31 => ?_)
                          · refine okL_skip 63 62 (((((x23 || (a0 == 7)) || (a0 == 8)) || (a0 == 9)) || (a0 == 33)) || (a0 == 35)) rfl rfl hb31 rfl rfl ?_
                            refine okL_skip 64 62 (((((x23 || (a0 == 7)) || (a0 == 8)) || (a0 == 9)) || (a0 == 33)) || (a0 == 35)) rfl rfl hb31 rfl rfl ?_
                            refine okL_step 65 (tB true) rfl rfl (does_pick_t (((((x23 || (a0 == 7)) || (a0 == 8)) || (a0 == 9)) || (a0 == 33)) || (a0 == 35)) rfl hb31 rfl) ?_
                            refine okL_nil ?_
                            exact okX_meet (I := _) true (or_t hb31) (cc rfl (cc rfl (cc rfl (cc rfl (cc rfl (cc rfl cn)))))) rfl
                          · refine okL_guard 63 (tI a0) 62 (((((x23 || (a0 == 7)) || (a0 == 8)) || (a0 == 9)) || (a0 == 33)) || (a0 == 35)) rfl rfl hb31 rfl rfl (does_move rfl) ?_
                            refine okL_guard 64 (tB (a0 == 37)) 62 (((((x23 || (a0 == 7)) || (a0 == 8)) || (a0 == 9)) || (a0 == 33)) || (a0 == 35)) rfl rfl hb31 rfl rfl (does_eql rfl rfl) ?_
                            refine okL_step 65 (tB (a0 == 37)) rfl rfl (does_pick_f (((((x23 || (a0 == 7)) || (a0 == 8)) || (a0 == 9)) || (a0 == 33)) || (a0 == 35)) rfl hb31 rfl) ?_
                            refine okL_nil ?_
                            exact okX_meet (I := _) (a0 == 37) (or_f hb31) (cc rfl (cc rfl (cc rfl (cc rfl (cc rfl (cc rfl cn)))))) rfl
                        · intro x74 hx
                          subst hx
                          change OkL _ _ _ _ [(0, (tI a0)), (2, (pAt g1 0)), (5, (pAt g9 0)), (6, (tB ((a0 == 11) || (a0 == 12)))), (7, (tB ((a0 == 15) || (a0 == 16)))), (65, (tB ((((((x23 || (a0 == 7)) || (a0 == 8)) || (a0 == 9)) || (a0 == 33)) || (a0 == 35)) || (a0 == 37))))] (Item.blk g9 113 [(tS y7), (tI r2), (tB false), (tB false), (tB false), (tB false), (tI s10)] :: Item.blk g1 113 [(tS ⟨#[]⟩), (tI 0), (tB false), (tB false), (tB false), (tB false), (tI 0)] :: L)
                          refine okL_step 66 (pAt g9 2) rfl rfl (does_fieldAddrP 2 Tryd.underlying113 rfl Tryd.sizeOf4 rfl rfl) ?_
                          refine okL_stepU rfl (doesO_storeB (ps := [(tB ((((((x23 || (a0 == 7)) || (a0 == 8)) || (a0 == 9)) || (a0 == 33)) || (a0 == 35)) || (a0 == 37)))]) 0 [(tS y7), (tI r2), (tB ((((((x23 || (a0 == 7)) || (a0 == 8)) || (a0 == 9)) || (a0 == 33)) || (a0 == 35)) || (a0 == 37))), (tB false), (tB false), (tB false), (tI s10)] (Item.blk g9 113 [(tS y7), (tI r2), (tB ((((((x23 || (a0 == 7)) || (a0 == 8)) || (a0 == 9)) || (a0 == 33)) || (a0 == 35)) || (a0 == 37))), (tB false), (tB false), (tB false), (tI s10)] :: Item.blk g1 113 [(tS ⟨#[]⟩), (tI 0), (tB false), (tB false), (tB false), (tB false), (tI 0)] :: L) rfl rfl (part_one (one_b _)) Tryd.sizeOf4 rfl rfl rfl rfl ?_)
                          refine okL_nil ?_
                          refine okX_next ?_
                          refine okC_seq ?_
                          refine okC_region ?_
                          refine okL_step 67 (tB ((a0 == 11) || (a0 == 12))) rfl rfl (does_move rfl) ?_
                          refine okL_step 68 (tB ((a0 == 11) || (a0 == 12))) rfl rfl (does_move rfl) ?_
                          refine okL_meet (X := Bool) 2 (fun x => x = (((a0 == 11) || (a0 == 12)) || ((a0 == 15) || (a0 == 16)))) (fun x : Bool => [(0, (tI a0)), (2, (pAt g1 0)), (5, (pAt g9 0)), (6, (tB ((a0 == 11) || (a0 == 12)))), (70, (tB x))]) (fun x : Bool => Item.blk g9 113 [(tS y7), (tI r2), (tB ((((((x23 || (a0 == 7)) || (a0 == 8)) || (a0 == 9)) || (a0 == 33)) || (a0 == 35)) || (a0 == 37))), (tB false), (tB false), (tB false), (tI s10)] :: Item.blk g1 113 [(tS ⟨#[]⟩), (tI 0), (tB false), (tB false), (tB false), (tB false), (tI 0)] :: L) _ rfl ?_ ?_
                          · refine okL_split ((a0 == 11) || (a0 == 12)) (fun hb32 => ?_) (fun hb32 => ?_)
                            · refine okL_skip 69 68 ((a0 == 11) || (a0 == 12)) rfl rfl hb32 rfl rfl ?_
                              refine okL_step 70 (tB true) rfl rfl (does_pick_t ((a0 == 11) || (a0 == 12)) rfl hb32 rfl) ?_
                              refine okL_nil ?_
                              exact okX_meet (I := _) true (or_t hb32) (cc rfl (cc rfl (cc rfl (cc rfl (cc rfl cn))))) rfl
                            · refine okL_guard 69 (tB ((a0 == 15) || (a0 == 16))) 68 ((a0 == 11) || (a0 == 12)) rfl rfl hb32 rfl rfl (does_move rfl) ?_
                              refine okL_step 70 (tB ((a0 == 15) || (a0 == 16))) rfl rfl (does_pick_f ((a0 == 11) || (a0 == 12)) rfl hb32 rfl) ?_
                              refine okL_nil ?_
                              exact okX_meet (I := _) ((a0 == 15) || (a0 == 16)) (or_f hb32) (cc rfl (cc rfl (cc rfl (cc rfl (cc rfl cn))))) rfl
                          · intro x73 hx
                            subst hx
                            change OkL _ _ _ _ [(0, (tI a0)), (2, (pAt g1 0)), (5, (pAt g9 0)), (6, (tB ((a0 == 11) || (a0 == 12)))), (70, (tB (((a0 == 11) || (a0 == 12)) || ((a0 == 15) || (a0 == 16)))))] (Item.blk g9 113 [(tS y7), (tI r2), (tB ((((((x23 || (a0 == 7)) || (a0 == 8)) || (a0 == 9)) || (a0 == 33)) || (a0 == 35)) || (a0 == 37))), (tB false), (tB false), (tB false), (tI s10)] :: Item.blk g1 113 [(tS ⟨#[]⟩), (tI 0), (tB false), (tB false), (tB false), (tB false), (tI 0)] :: L)
                            refine okL_step 71 (tB (((a0 == 11) || (a0 == 12)) || ((a0 == 15) || (a0 == 16)))) rfl rfl (does_move rfl) ?_
                            obtain ⟨z34, h36, hz35⟩ := bs h
                            refine okL_meet (X := Bool) 3 (fun x => z34 = x) (fun x : Bool => [(0, (tI a0)), (2, (pAt g1 0)), (5, (pAt g9 0)), (6, (tB ((a0 == 11) || (a0 == 12)))), (74, (tB x))]) (fun x : Bool => Item.blk g9 113 [(tS y7), (tI r2), (tB ((((((x23 || (a0 == 7)) || (a0 == 8)) || (a0 == 9)) || (a0 == 33)) || (a0 == 35)) || (a0 == 37))), (tB false), (tB false), (tB false), (tI s10)] :: Item.blk g1 113 [(tS ⟨#[]⟩), (tI 0), (tB false), (tB false), (tB false), (tB false), (tI 0)] :: L) _ rfl ?_ ?_
                            · refine okL_split (((a0 == 11) || (a0 == 12)) || ((a0 == 15) || (a0 == 16))) (fun hb33 => ?_) (fun hb33 => ?_)
                              · replace h36 := ct hb33 h36
                                refine okL_skip 72 71 (((a0 == 11) || (a0 == 12)) || ((a0 == 15) || (a0 == 16))) rfl rfl hb33 rfl rfl ?_
                                refine okL_skip 73 71 (((a0 == 11) || (a0 == 12)) || ((a0 == 15) || (a0 == 16))) rfl rfl hb33 rfl rfl ?_
                                refine okL_step 74 (tB true) rfl rfl (does_pick_t (((a0 == 11) || (a0 == 12)) || ((a0 == 15) || (a0 == 16))) rfl hb33 rfl) ?_
                                refine okL_nil ?_
                                exact okX_meet (I := _) true (smh h36) (cc rfl (cc rfl (cc rfl (cc rfl (cc rfl cn))))) rfl
                              · replace h36 := cf hb33 h36
                                refine okL_guard 72 (tI a0) 71 (((a0 == 11) || (a0 == 12)) || ((a0 == 15) || (a0 == 16))) rfl rfl hb33 rfl rfl (does_move rfl) ?_
                                obtain ⟨r38, hc39, h36⟩ := bs h36
                                refine okL_guard 73 (tB r38) 71 (((a0 == 11) || (a0 == 12)) || ((a0 == 15) || (a0 == 16))) rfl rfl hb33 rfl rfl (does_call0 (c_ref29_IsBinary a0 r38 hc39) rfl Tryd.call124 rfl) ?_
                                refine okL_step 74 (tB r38) rfl rfl (does_pick_f (((a0 == 11) || (a0 == 12)) || ((a0 == 15) || (a0 == 16))) rfl hb33 rfl) ?_
                                refine okL_nil ?_
                                exact okX_meet (I := _) r38 (smh h36) (cc rfl (cc rfl (cc rfl (cc rfl (cc rfl cn))))) rfl
                            · intro x37 hx
                              obtain rfl : x37 = z34 := hx.symm
                              replace h := hz35
                              change OkL _ _ _ _ [(0, (tI a0)), (2, (pAt g1 0)), (5, (pAt g9 0)), (6, (tB ((a0 == 11) || (a0 == 12)))), (74, (tB x37))] (Item.blk g9 113 [(tS y7), (tI r2), (tB ((((((x23 || (a0 == 7)) || (a0 == 8)) || (a0 == 9)) || (a0 == 33)) || (a0 == 35)) || (a0 == 37))), (tB false), (tB false), (tB false), (tI s10)] :: Item.blk g1 113 [(tS ⟨#[]⟩), (tI 0), (tB false), (tB false), (tB false), (tB false), (tI 0)] :: L)
                              refine okL_step 75 (tB x37) rfl rfl (does_move rfl) ?_
                              refine okL_meet (X := Bool) 3 (fun x => x = (x37 || (a0 == 10))) (fun x : Bool => [(0, (tI a0)), (2, (pAt g1 0)), (5, (pAt g9 0)), (6, (tB ((a0 == 11) || (a0 == 12)))), (78, (tB x))]) (fun x : Bool => Item.blk g9 113 [(tS y7), (tI r2), (tB ((((((x23 || (a0 == 7)) || (a0 == 8)) || (a0 == 9)) || (a0 == 33)) || (a0 == 35)) || (a0 == 37))), (tB false), (tB false), (tB false), (tI s10)] :: Item.blk g1 113 [(tS ⟨#[]⟩), (tI 0), (tB false), (tB false), (tB false), (tB false), (tI 0)] :: L) _ rfl ?_ ?_
                              · refine okL_split x37 (fun hb40 => ?_) (fun hb40 => ?_)
                                · refine okL_skip 76 75 x37 rfl rfl hb40 rfl rfl ?_
                                  refine okL_skip 77 75 x37 rfl rfl hb40 rfl rfl ?_
                                  refine okL_step 78 (tB true) rfl rfl (does_pick_t x37 rfl hb40 rfl) ?_
                                  refine okL_nil ?_
                                  exact okX_meet (I := _) true (or_t hb40) (cc rfl (cc rfl (cc rfl (cc rfl (cc rfl cn))))) rfl
                                · refine okL_guard 76 (tI a0) 75 x37 rfl rfl hb40 rfl rfl (does_move rfl) ?_
                                  refine okL_guard 77 (tB (a0 == 10)) 75 x37 rfl rfl hb40 rfl rfl (does_eql rfl rfl) ?_
                                  refine okL_step 78 (tB (a0 == 10)) rfl rfl (does_pick_f x37 rfl hb40 rfl) ?_
                                  refine okL_nil ?_
                                  exact okX_meet (I := _) (a0 == 10) (or_f hb40) (cc rfl (cc rfl (cc rfl (cc rfl (cc rfl cn))))) rfl
                              · intro x72 hx
                                subst hx
                                change OkL _ _ _ _ [(0, (tI a0)), (2, (pAt g1 0)), (5, (pAt g9 0)), (6, (tB ((a0 == 11) || (a0 == 12)))), (78, (tB (x37 || (a0 == 10))))] (Item.blk g9 113 [(tS y7), (tI r2), (tB ((((((x23 || (a0 == 7)) || (a0 == 8)) || (a0 == 9)) || (a0 == 33)) || (a0 == 35)) || (a0 == 37))), (tB false), (tB false), (tB false), (tI s10)] :: Item.blk g1 113 [(tS ⟨#[]⟩), (tI 0), (tB false), (tB false), (tB false), (tB false), (tI 0)] :: L)
                                refine okL_step 79 (tB (x37 || (a0 == 10))) rfl rfl (does_move rfl) ?_
                                refine okL_meet (X := Bool) 3 (fun x => x = ((x37 || (a0 == 10)) || (a0 == 13))) (fun x : Bool => [(0, (tI a0)), (2, (pAt g1 0)), (5, (pAt g9 0)), (6, (tB ((a0 == 11) || (a0 == 12)))), (82, (tB x))]) (fun x : Bool => Item.blk g9 113 [(tS y7), (tI r2), (tB ((((((x23 || (a0 == 7)) || (a0 == 8)) || (a0 == 9)) || (a0 == 33)) || (a0 == 35)) || (a0 == 37))), (tB false), (tB false), (tB false), (tI s10)] :: Item.blk g1 113 [(tS ⟨#[]⟩), (tI 0), (tB false), (tB false), (tB false), (tB false), (tI 0)] :: L) _ rfl ?_ ?_
                                · refine okL_split (x37 || (a0 == 10)) (fun hb41 => ?_) (fun hb41 => ?_)
                                  · refine okL_skip 80 79 (x37 || (a0 == 10)) rfl rfl hb41 rfl rfl ?_
                                    refine okL_skip 81 79 (x37 || (a0 == 10)) rfl rfl hb41 rfl rfl ?_
                                    refine okL_step 82 (tB true) rfl rfl (does_pick_t (x37 || (a0 == 10)) rfl hb41 rfl) ?_
                                    refine okL_nil ?_
                                    exact okX_meet (I := _) true (or_t hb41) (cc rfl (cc rfl (cc rfl (cc rfl (cc rfl cn))))) rfl
                                  · refine okL_guard 80 (tI a0) 79 (x37 || (a0 == 10)) rfl rfl hb41 rfl rfl (does_move rfl) ?_
                                    refine okL_guard 81 (tB (a0 == 13)) 79 (x37 || (a0 == 10)) rfl rfl hb41 rfl rfl (does_eql rfl rfl) ?_
                                    refine okL_step 82 (tB (a0 == 13)) rfl rfl (does_pick_f (x37 || (a0 == 10)) rfl hb41 rfl) ?_
                                    refine okL_nil ?_
                                    exact okX_meet (I := _) (a0 == 13) (or_f hb41) (cc rfl (cc rfl (cc rfl (cc rfl (cc rfl cn))))) rfl
                                · intro x71 hx
                                  subst hx
                                  change OkL _ _ _ _ [(0, (tI a0)), (2, (pAt g1 0)), (5, (pAt g9 0)), (6, (tB ((a0 == 11) || (a0 == 12)))), (82, (tB ((x37 || (a0 == 10)) || (a0 == 13))))] (Item.blk g9 113 [(tS y7), (tI r2), (tB ((((((x23 || (a0 == 7)) || (a0 == 8)) || (a0 == 9)) || (a0 == 33)) || (a0 == 35)) || (a0 == 37))), (tB false), (tB false), (tB false), (tI s10)] :: Item.blk g1 113 [(tS ⟨#[]⟩), (tI 0), (tB false), (tB false), (tB false), (tB false), (tI 0)] :: L)
                                  refine okL_step 83 (tB ((x37 || (a0 == 10)) || (a0 == 13))) rfl rfl (does_move rfl) ?_
                                  refine okL_meet (X := Bool) 3 (fun x => x = (((x37 || (a0 == 10)) || (a0 == 13)) || (a0 == 14))) (fun x : Bool => [(0, (tI a0)), (2, (pAt g1 0)), (5, (pAt g9 0)), (6, (tB ((a0 == 11) || (a0 == 12)))), (86, (tB x))]) (fun x : Bool => Item.blk g9 113 [(tS y7), (tI r2), (tB ((((((x23 || (a0 == 7)) || (a0 == 8)) || (a0 == 9)) || (a0 == 33)) || (a0 == 35)) || (a0 == 37))), (tB false), (tB false), (tB false), (tI s10)] :: Item.blk g1 113 [(tS ⟨#[]⟩), (tI 0), (tB false), (tB false), (tB false), (tB false), (tI 0)] :: L) _ rfl ?_ ?_
                                  · refine okL_split ((x37 || (a0 == 10)) || (a0 == 13)) (fun hb42 => ?_) (fun hb42 => ?_)
                                    · refine okL_skip 84 83 ((x37 || (a0 == 10)) || (a0 == 13)) rfl rfl hb42 rfl rfl ?_
                                      refine okL_skip 85 83 ((x37 || (a0 == 10)) || (a0 == 13)) rfl rfl hb42 rfl rfl ?_
                                      refine okL_step 86 (tB true) rfl rfl (does_pick_t ((x37 || (a0 == 10)) || (a0 == 13)) rfl hb42 rfl) ?_
                                      refine okL_nil ?_
                                      exact okX_meet (I := _) true (or_t hb42) (cc rfl (cc rfl (cc rfl (cc rfl (cc rfl cn))))) rfl
                                    · refine okL_guard 84 (tI a0) 83 ((x37 || (a0 == 10)) || (a0 == 13)) rfl rfl hb42 rfl rfl (does_move rfl) ?_
                                      refine okL_guard 85 (tB (a0 == 14)) 83 ((x37 || (a0 == 10)) || (a0 == 13)) rfl rfl hb42 rfl rfl (does_eql rfl rfl) ?_
                                      refine okL_step 86 (tB (a0 == 14)) rfl rfl (does_pick_f ((x37 || (a0 == 10)) || (a0 == 13)) rfl hb42 rfl) ?_
                                      refine okL_nil ?_
                                      exact okX_meet (I := _) (a0 == 14) (or_f hb42) (cc rfl (cc rfl (cc rfl (cc rfl (cc rfl cn))))) rfl
                                  · intro x70 hx
                                    subst hx
                                    change OkL _ _ _ _ [(0, (tI a0)), (2, (pAt g1 0)), (5, (pAt g9 0)), (6, (tB ((a0 == 11) || (a0 == 12)))), (86, (tB (((x37 || (a0 == 10)) || (a0 == 13)) || (a0 == 14))))] (Item.blk g9 113 [(tS y7), (tI r2), (tB ((((((x23 || (a0 == 7)) || (a0 == 8)) || (a0 == 9)) || (a0 == 33)) || (a0 == 35)) || (a0 == 37))), (tB false), (tB false), (tB false), (tI s10)] :: Item.blk g1 113 [(tS ⟨#[]⟩), (tI 0), (tB false), (tB false), (tB false), (tB false), (tI 0)] :: L)
                                    refine okL_step 87 (tB (((x37 || (a0 == 10)) || (a0 == 13)) || (a0 == 14))) rfl rfl (does_move rfl) ?_
                                    refine okL_meet (X := Bool) 3 (fun x => x = ((((x37 || (a0 == 10)) || (a0 == 13)) || (a0 == 14)) || (a0 == 33))) (fun x : Bool => [(0, (tI a0)), (2, (pAt g1 0)), (5, (pAt g9 0)), (6, (tB ((a0 == 11) || (a0 == 12)))), (90, (tB x))]) (fun x : Bool => Item.blk g9 113 [(tS y7), (tI r2), (tB ((((((x23 || (a0 == 7)) || (a0 == 8)) || (a0 == 9)) || (a0 == 33)) || (a0 == 35)) || (a0 == 37))), (tB false), (tB false), (tB false), (tI s10)] :: Item.blk g1 113 [(tS ⟨#[]⟩), (tI 0), (tB false), (tB false), (tB false), (tB false), (tI 0)] :: L) _ rfl ?_ ?_
                                    · refine okL_split (((x37 || (a0 == 10)) || (a0 == 13)) || (a0 == 14)) (fun hb43 => ?_) (fun hb43 => ?_)
                                      · refine okL_skip 88 87 (((x37 || (a0 == 10)) || (a0 == 13)) || (a0 == 14)) rfl rfl hb43 rfl rfl ?_
                                        refine okL_skip 89 87 (((x37 || (a0 == 10)) || (a0 == 13)) || (a0 == 14)) rfl rfl hb43 rfl rfl ?_
                                        refine okL_step 90 (tB true) rfl rfl (does_pick_t (((x37 || (a0 == 10)) || (a0 == 13)) || (a0 == 14)) rfl hb43 rfl) ?_
                                        refine okL_nil ?_
                                        exact okX_meet (I := _) true (or_t hb43) (cc rfl (cc rfl (cc rfl (cc rfl (cc rfl cn))))) rfl
                                      · refine okL_guard 88 (tI a0) 87 (((x37 || (a0 == 10)) || (a0 == 13)) || (a0 == 14)) rfl rfl hb43 rfl rfl (does_move rfl) ?_
                                        refine okL_guard 89 (tB (a0 == 33)) 87 (((x37 || (a0 == 10)) || (a0 == 13)) || (a0 == 14)) rfl rfl hb43 rfl rfl (does_eql rfl rfl) ?_
                                        refine okL_step 90 (tB (a0 == 33)) rfl rfl (does_pick_f (((x37 || (a0 == 10)) || (a0 == 13)) || (a0 == 14)) rfl hb43 rfl) ?_
                                        refine okL_nil ?_
                                        exact okX_meet (I := _) (a0 == 33) (or_f hb43) (cc rfl (cc rfl (cc rfl (cc rfl (cc rfl cn))))) rfl
                                    · intro x69 hx
                                      subst hx
                                      change OkL _ _ _ _ [(0, (tI a0)), (2, (pAt g1 0)), (5, (pAt g9 0)), (6, (tB ((a0 == 11) || (a0 == 12)))), (90, (tB ((((x37 || (a0 == 10)) || (a0 == 13)) || (a0 == 14)) || (a0 == 33))))] (Item.blk g9 113 [(tS y7), (tI r2), (tB ((((((x23 || (a0 == 7)) || (a0 == 8)) || (a0 == 9)) || (a0 == 33)) || (a0 == 35)) || (a0 == 37))), (tB false), (tB false), (tB false), (tI s10)] :: Item.blk g1 113 [(tS ⟨#[]⟩), (tI 0), (tB false), (tB false), (tB false), (tB false), (tI 0)] :: L)
                                      refine okL_step 91 (tB ((((x37 || (a0 == 10)) || (a0 == 13)) || (a0 == 14)) || (a0 == 33))) rfl rfl (does_move rfl) ?_
                                      refine okL_meet (X := Bool) 3 (fun x => x = (((((x37 || (a0 == 10)) || (a0 == 13)) || (a0 == 14)) || (a0 == 33)) || (a0 == 34))) (fun x : Bool => [(0, (tI a0)), (2, (pAt g1 0)), (5, (pAt g9 0)), (6, (tB ((a0 == 11) || (a0 == 12)))), (94, (tB x))]) (fun x : Bool => Item.blk g9 113 [(tS y7), (tI r2), (tB ((((((x23 || (a0 == 7)) || (a0 == 8)) || (a0 == 9)) || (a0 == 33)) || (a0 == 35)) || (a0 == 37))), (tB false), (tB false), (tB false), (tI s10)] :: Item.blk g1 113 [(tS ⟨#[]⟩), (tI 0), (tB false), (tB false), (tB false), (tB false), (tI 0)] :: L) _ rfl ?_ ?_
                                      · refine okL_split ((((x37 || (a0 == 10)) || (a0 == 13)) || (a0 == 14)) || (a0 == 33)) (fun hb44 => ?_) (fun hb44 => ?_)
                                        · refine okL_skip 92 91 ((((x37 || (a0 == 10)) || (a0 == 13)) || (a0 == 14)) || (a0 == 33)) rfl rfl hb44 rfl rfl ?_
                                          refine okL_skip 93 91 ((((x37 || (a0 == 10)) || (a0 == 13)) || (a0 == 14)) || (a0 == 33)) rfl rfl hb44 rfl rfl ?_
                                          refine okL_step 94 (tB true) rfl rfl (does_pick_t ((((x37 || (a0 == 10)) || (a0 == 13)) || (a0 == 14)) || (a0 == 33)) rfl hb44 rfl) ?_
                                          refine okL_nil ?_
                                          exact okX_meet (I := _) true (or_t hb44) (cc rfl (cc rfl (cc rfl (cc rfl (cc rfl cn))))) rfl
                                        · refine okL_guard 92 (tI a0) 91 ((((x37 || (a0 == 10)) || (a0 == 13)) || (a0 == 14)) || (a0 == 33)) rfl rfl hb44 rfl rfl (does_move rfl) ?_
                                          refine okL_guard 93 (tB (a0 == 34)) 91 ((((x37 || (a0 == 10)) || (a0 == 13)) || (a0 == 14)) || (a0 == 33)) rfl rfl hb44 rfl rfl (does_eql rfl rfl) ?_
                                          refine okL_step 94 (tB (a0 == 34)) rfl rfl (does_pick_f ((((x37 || (a0 == 10)) || (a0 == 13)) || (a0 == 14)) || (a0 == 33)) rfl hb44 rfl) ?_
                                          refine okL_nil ?_
                                          exact okX_meet (I := _) (a0 == 34) (or_f hb44) (cc rfl (cc rfl (cc rfl (cc rfl (cc rfl cn))))) rfl
                                      · intro x68 hx
                                        subst hx
                                        change OkL _ _ _ _ [(0, (tI a0)), (2, (pAt g1 0)), (5, (pAt g9 0)), (6, (tB ((a0 == 11) || (a0 == 12)))), (94, (tB (((((x37 || (a0 == 10)) || (a0 == 13)) || (a0 == 14)) || (a0 == 33)) || (a0 == 34))))] (Item.blk g9 113 [(tS y7), (tI r2), (tB ((((((x23 || (a0 == 7)) || (a0 == 8)) || (a0 == 9)) || (a0 == 33)) || (a0 == 35)) || (a0 == 37))), (tB false), (tB false), (tB false), (tI s10)] :: Item.blk g1 113 [(tS ⟨#[]⟩), (tI 0), (tB false), (tB false), (tB false), (tB false), (tI 0)] :: L)
                                        refine okL_step 95 (tB (((((x37 || (a0 == 10)) || (a0 == 13)) || (a0 == 14)) || (a0 == 33)) || (a0 == 34))) rfl rfl (does_move rfl) ?_
                                        refine okL_meet (X := Bool) 3 (fun x => x = ((((((x37 || (a0 == 10)) || (a0 == 13)) || (a0 == 14)) || (a0 == 33)) || (a0 == 34)) || (a0 == 36))) (fun x : Bool => [(0, (tI a0)), (2, (pAt g1 0)), (5, (pAt g9 0)), (6, (tB ((a0 == 11) || (a0 == 12)))), (98, (tB x))]) (fun x : Bool => Item.blk g9 113 [(tS y7), (tI r2), (tB ((((((x23 || (a0 == 7)) || (a0 == 8)) || (a0 == 9)) || (a0 == 33)) || (a0 == 35)) || (a0 == 37))), (tB false), (tB false), (tB false), (tI s10)] :: Item.blk g1 113 [(tS ⟨#[]⟩), (tI 0), (tB false), (tB false), (tB false), (tB false), (tI 0)] :: L) _ rfl ?_ ?_
                                        · refine okL_split (((((x37 || (a0 == 10)) || (a0 == 13)) || (a0 == 14)) || (a0 == 33)) || (a0 == 34)) (fun hb45 => ?_) (fun hb45 => ?_)
                                          · refine okL_skip 96 95 (((((x37 || (a0 == 10)) || (a0 == 13)) || (a0 == 14)) || (a0 == 33)) || (a0 == 34)) rfl rfl hb45 rfl rfl ?_
                                            refine okL_skip 97 95 (((((x37 || (a0 == 10)) || (a0 == 13)) || (a0 == 14)) || (a0 == 33)) || (a0 == 34)) rfl rfl hb45 rfl rfl ?_
                                            refine okL_step 98 (tB true) rfl rfl (does_pick_t (((((x37 || (a0 == 10)) || (a0 == 13)) || (a0 == 14)) || (a0 == 33)) || (a0 == 34)) rfl hb45 rfl) ?_
                                            refine okL_nil ?_
                                            exact okX_meet (I := _) true (or_t hb45) (cc rfl (cc rfl (cc rfl (cc rfl (cc rfl cn))))) rfl
                                          · refine okL_guard 96 (tI a0) 95 (((((x37 || (a0 == 10)) || (a0 == 13)) || (a0 == 14)) || (a0 == 33)) || (a0 == 34)) rfl rfl hb45 rfl rfl (does_move rfl) ?_
                                            refine okL_guard 97 (tB (a0 == 36)) 95 (((((x37 || (a0 == 10)) || (a0 == 13)) || (a0 == 14)) || (a0 == 33)) || (a0 == 34)) rfl rfl hb45 rfl rfl (does_eql rfl rfl) ?_
                                            refine okL_step 98 (tB (a0 == 36)) rfl rfl (does_pick_f (((((x37 || (a0 == 10)) || (a0 == 13)) || (a0 == 14)) || (a0 == 33)) || (a0 == 34)) rfl hb45 rfl) ?_
                                            refine okL_nil ?_
                                            exact okX_meet (I := _) (a0 == 36) (or_f hb45) (cc rfl (cc rfl (cc rfl (cc rfl (cc rfl cn))))) rfl
                                        · intro x67 hx
                                          subst hx
                                          change OkL _ _ _ _ [(0, (tI a0)), (2, (pAt g1 0)), (5, (pAt g9 0)), (6, (tB ((a0 == 11) || (a0 == 12)))), (98, (tB ((((((x37 || (a0 == 10)) || (a0 == 13)) || (a0 == 14)) || (a0 == 33)) || (a0 == 34)) || (a0 == 36))))] (Item.blk g9 113 [(tS y7), (tI r2), (tB ((((((x23 || (a0 == 7)) || (a0 == 8)) || (a0 == 9)) || (a0 == 33)) || (a0 == 35)) || (a0 == 37))), (tB false), (tB false), (tB false), (tI s10)] :: Item.blk g1 113 [(tS ⟨#[]⟩), (tI 0), (tB false), (tB false), (tB false), (tB false), (tI 0)] :: L)
                                          refine okL_step 99 (pAt g9 3) rfl rfl (does_fieldAddrP 3 Tryd.underlying113 rfl Tryd.sizeOf4 rfl rfl) ?_
                                          refine okL_stepU rfl (doesO_storeB (ps := [(tB ((((((x37 || (a0 == 10)) || (a0 == 13)) || (a0 == 14)) || (a0 == 33)) || (a0 == 34)) || (a0 == 36)))]) 0 [(tS y7), (tI r2), (tB ((((((x23 || (a0 == 7)) || (a0 == 8)) || (a0 == 9)) || (a0 == 33)) || (a0 == 35)) || (a0 == 37))), (tB ((((((x37 || (a0 == 10)) || (a0 == 13)) || (a0 == 14)) || (a0 == 33)) || (a0 == 34)) || (a0 == 36))), (tB false), (tB false), (tI s10)] (Item.blk g9 113 [(tS y7), (tI r2), (tB ((((((x23 || (a0 == 7)) || (a0 == 8)) || (a0 == 9)) || (a0 == 33)) || (a0 == 35)) || (a0 == 37))), (tB ((((((x37 || (a0 == 10)) || (a0 == 13)) || (a0 == 14)) || (a0 == 33)) || (a0 == 34)) || (a0 == 36))), (tB false), (tB false), (tI s10)] :: Item.blk g1 113 [(tS ⟨#[]⟩), (tI 0), (tB false), (tB false), (tB false), (tB false), (tI 0)] :: L) rfl rfl (part_one (one_b _)) Tryd.sizeOf4 rfl rfl rfl rfl ?_)
                                          refine okL_nil ?_
                                          refine okX_next ?_
                                          refine okC_seq ?_
                                          refine okC_region ?_
                                          refine okL_step 100 (tB ((a0 == 11) || (a0 == 12))) rfl rfl (does_move rfl) ?_
                                          refine okL_step 101 (tB ((a0 == 11) || (a0 == 12))) rfl rfl (does_move rfl) ?_
                                          obtain ⟨z47, h49, hz48⟩ := bs h
                                          refine okL_meet (X := Bool) 3 (fun x => z47 = x) (fun x : Bool => [(0, (tI a0)), (2, (pAt g1 0)), (5, (pAt g9 0)), (104, (tB x))]) (fun x : Bool => Item.blk g9 113 [(tS y7), (tI r2), (tB ((((((x23 || (a0 == 7)) || (a0 == 8)) || (a0 == 9)) || (a0 == 33)) || (a0 == 35)) || (a0 == 37))), (tB ((((((x37 || (a0 == 10)) || (a0 == 13)) || (a0 == 14)) || (a0 == 33)) || (a0 == 34)) || (a0 == 36))), (tB false), (tB false), (tI s10)] :: Item.blk g1 113 [(tS ⟨#[]⟩), (tI 0), (tB false), (tB false), (tB false), (tB false), (tI 0)] :: L) _ rfl ?_ ?_
                                          · refine okL_split ((a0 == 11) || (a0 == 12)) (fun hb46 => ?_) (fun hb46 => ?_)
                                            · replace h49 := ct hb46 h49
                                              refine okL_skip 102 101 ((a0 == 11) || (a0 == 12)) rfl rfl hb46 rfl rfl ?_
                                              refine okL_skip 103 101 ((a0 == 11) || (a0 == 12)) rfl rfl hb46 rfl rfl ?_
                                              refine okL_step 104 (tB true) rfl rfl (does_pick_t ((a0 == 11) || (a0 == 12)) rfl hb46 rfl) ?_
                                              refine okL_nil ?_
                                              exact okX_meet (I := _) true (smh h49) (cc rfl (cc rfl (cc rfl (cc rfl cn)))) rfl
                                            · replace h49 := cf hb46 h49
                                              refine okL_guard 102 (tI a0) 101 ((a0 == 11) || (a0 == 12)) rfl rfl hb46 rfl rfl (does_move rfl) ?_
                                              obtain ⟨r51, hc52, h49⟩ := bs h49
                                              refine okL_guard 103 (tB r51) 101 ((a0 == 11) || (a0 == 12)) rfl rfl hb46 rfl rfl (does_call0 (c_ref29_IsBinary a0 r51 hc52) rfl Tryd.call124 rfl) ?_
                                              refine okL_step 104 (tB r51) rfl rfl (does_pick_f ((a0 == 11) || (a0 == 12)) rfl hb46 rfl) ?_
                                              refine okL_nil ?_
                                              exact okX_meet (I := _) r51 (smh h49) (cc rfl (cc rfl (cc rfl (cc rfl cn)))) rfl
                                          · intro x50 hx
                                            obtain rfl : x50 = z47 := hx.symm
                                            replace h := hz48
                                            change OkL _ _ _ _ [(0, (tI a0)), (2, (pAt g1 0)), (5, (pAt g9 0)), (104, (tB x50))] (Item.blk g9 113 [(tS y7), (tI r2), (tB ((((((x23 || (a0 == 7)) || (a0 == 8)) || (a0 == 9)) || (a0 == 33)) || (a0 == 35)) || (a0 == 37))), (tB ((((((x37 || (a0 == 10)) || (a0 == 13)) || (a0 == 14)) || (a0 == 33)) || (a0 == 34)) || (a0 == 36))), (tB false), (tB false), (tI s10)] :: Item.blk g1 113 [(tS ⟨#[]⟩), (tI 0), (tB false), (tB false), (tB false), (tB false), (tI 0)] :: L)
                                            refine okL_step 105 (tB x50) rfl rfl (does_move rfl) ?_
                                            refine okL_meet (X := Bool) 3 (fun x => x = (x50 || (a0 == 10))) (fun x : Bool => [(0, (tI a0)), (2, (pAt g1 0)), (5, (pAt g9 0)), (108, (tB x))]) (fun x : Bool => Item.blk g9 113 [(tS y7), (tI r2), (tB ((((((x23 || (a0 == 7)) || (a0 == 8)) || (a0 == 9)) || (a0 == 33)) || (a0 == 35)) || (a0 == 37))), (tB ((((((x37 || (a0 == 10)) || (a0 == 13)) || (a0 == 14)) || (a0 == 33)) || (a0 == 34)) || (a0 == 36))), (tB false), (tB false), (tI s10)] :: Item.blk g1 113 [(tS ⟨#[]⟩), (tI 0), (tB false), (tB false), (tB false), (tB false), (tI 0)] :: L) _ rfl ?_ ?_
                                            · refine okL_split x50 (fun hb53 => ?_) (fun hb53 => ?_)
                                              · refine okL_skip 106 105 x50 rfl rfl hb53 rfl rfl ?_
                                                refine okL_skip 107 105 x50 rfl rfl hb53 rfl rfl ?_
                                                refine okL_step 108 (tB true) rfl rfl (does_pick_t x50 rfl hb53 rfl) ?_
                                                refine okL_nil ?_
                                                exact okX_meet (I := _) true (or_t hb53) (cc rfl (cc rfl (cc rfl (cc rfl cn)))) rfl
                                              · refine okL_guard 106 (tI a0) 105 x50 rfl rfl hb53 rfl rfl (does_move rfl) ?_
                                                refine okL_guard 107 (tB (a0 == 10)) 105 x50 rfl rfl hb53 rfl rfl (does_eql rfl rfl) ?_
                                                refine okL_step 108 (tB (a0 == 10)) rfl rfl (does_pick_f x50 rfl hb53 rfl) ?_
                                                refine okL_nil ?_
                                                exact okX_meet (I := _) (a0 == 10) (or_f hb53) (cc rfl (cc rfl (cc rfl (cc rfl cn)))) rfl
                                            · intro x66 hx
                                              subst hx
                                              change OkL _ _ _ _ [(0, (tI a0)), (2, (pAt g1 0)), (5, (pAt g9 0)), (108, (tB (x50 || (a0 == 10))))] (Item.blk g9 113 [(tS y7), (tI r2), (tB ((((((x23 || (a0 == 7)) || (a0 == 8)) || (a0 == 9)) || (a0 == 33)) || (a0 == 35)) || (a0 == 37))), (tB ((((((x37 || (a0 == 10)) || (a0 == 13)) || (a0 == 14)) || (a0 == 33)) || (a0 == 34)) || (a0 == 36))), (tB false), (tB false), (tI s10)] :: Item.blk g1 113 [(tS ⟨#[]⟩), (tI 0), (tB false), (tB false), (tB false), (tB false), (tI 0)] :: L)
                                              refine okL_step 109 (tB (x50 || (a0 == 10))) rfl rfl (does_move rfl) ?_
                                              refine okL_meet (X := Bool) 3 (fun x => x = ((x50 || (a0 == 10)) || (a0 == 34))) (fun x : Bool => [(0, (tI a0)), (2, (pAt g1 0)), (5, (pAt g9 0)), (112, (tB x))]) (fun x : Bool => Item.blk g9 113 [(tS y7), (tI r2), (tB ((((((x23 || (a0 == 7)) || (a0 == 8)) || (a0 == 9)) || (a0 == 33)) || (a0 == 35)) || (a0 == 37))), (tB ((((((x37 || (a0 == 10)) || (a0 == 13)) || (a0 == 14)) || (a0 == 33)) || (a0 == 34)) || (a0 == 36))), (tB false), (tB false), (tI s10)] :: Item.blk g1 113 [(tS ⟨#[]⟩), (tI 0), (tB false), (tB false), (tB false), (tB false), (tI 0)] :: L) _ rfl ?_ ?_
                                              · refine okL_split (x50 || (a0 == 10)) (fun hb54 => ?_) (fun hb54 => ?_)
                                                · refine okL_skip 110 109 (x50 || (a0 == 10)) rfl rfl hb54 rfl rfl ?_
                                                  refine okL_skip 111 109 (x50 || (a0 == 10)) rfl rfl hb54 rfl rfl ?_
                                                  refine okL_step 112 (tB true) rfl rfl (does_pick_t (x50 || (a0 == 10)) rfl hb54 rfl) ?_
                                                  refine okL_nil ?_
                                                  exact okX_meet (I := _) true (or_t hb54) (cc rfl (cc rfl (cc rfl (cc rfl cn)))) rfl
                                                · refine okL_guard 110 (tI a0) 109 (x50 || (a0 == 10)) rfl rfl hb54 rfl rfl (does_move rfl) ?_
                                                  refine okL_guard 111 (tB (a0 == 34)) 109 (x50 || (a0 == 10)) rfl rfl hb54 rfl rfl (does_eql rfl rfl) ?_
                                                  refine okL_step 112 (tB (a0 == 34)) rfl rfl (does_pick_f (x50 || (a0 == 10)) rfl hb54 rfl) ?_
                                                  refine okL_nil ?_
                                                  exact okX_meet (I := _) (a0 == 34) (or_f hb54) (cc rfl (cc rfl (cc rfl (cc rfl cn)))) rfl
                                              · intro x65 hx
                                                subst hx
                                                change OkL _ _ _ _ [(0, (tI a0)), (2, (pAt g1 0)), (5, (pAt g9 0)), (112, (tB ((x50 || (a0 == 10)) || (a0 == 34))))] (Item.blk g9 113 [(tS y7), (tI r2), (tB ((((((x23 || (a0 == 7)) || (a0 == 8)) || (a0 == 9)) || (a0 == 33)) || (a0 == 35)) || (a0 == 37))), (tB ((((((x37 || (a0 == 10)) || (a0 == 13)) || (a0 == 14)) || (a0 == 33)) || (a0 == 34)) || (a0 == 36))), (tB false), (tB false), (tI s10)] :: Item.blk g1 113 [(tS ⟨#[]⟩), (tI 0), (tB false), (tB false), (tB false), (tB false), (tI 0)] :: L)
                                                refine okL_step 113 (tB ((x50 || (a0 == 10)) || (a0 == 34))) rfl rfl (does_move rfl) ?_
                                                refine okL_meet (X := Bool) 3 (fun x => x = (((x50 || (a0 == 10)) || (a0 == 34)) || (a0 == 35))) (fun x : Bool => [(0, (tI a0)), (2, (pAt g1 0)), (5, (pAt g9 0)), (116, (tB x))]) (fun x : Bool => Item.blk g9 113 [(tS y7), (tI r2), (tB ((((((x23 || (a0 == 7)) || (a0 == 8)) || (a0 == 9)) || (a0 == 33)) || (a0 == 35)) || (a0 == 37))), (tB ((((((x37 || (a0 == 10)) || (a0 == 13)) || (a0 == 14)) || (a0 == 33)) || (a0 == 34)) || (a0 == 36))), (tB false), (tB false), (tI s10)] :: Item.blk g1 113 [(tS ⟨#[]⟩), (tI 0), (tB false), (tB false), (tB false), (tB false), (tI 0)] :: L) _ rfl ?_ ?_
                                                · refine okL_split ((x50 || (a0 == 10)) || (a0 == 34)) (fun hb55 => ?_) (fun hb55 => ?_)
                                                  · refine okL_skip 114 113 ((x50 || (a0 == 10)) || (a0 == 34)) rfl rfl hb55 rfl rfl ?_
                                                    refine okL_skip 115 113 ((x50 || (a0 == 10)) || (a0 == 34)) rfl rfl hb55 rfl rfl ?_
                                                    refine okL_step 116 (tB true) rfl rfl (does_pick_t ((x50 || (a0 == 10)) || (a0 == 34)) rfl hb55 rfl) ?_
                                                    refine okL_nil ?_
                                                    exact okX_meet (I := _) true (or_t hb55) (cc rfl (cc rfl (cc rfl (cc rfl cn)))) rfl
                                                  · refine okL_guard 114 (tI a0) 113 ((x50 || (a0 == 10)) || (a0 == 34)) rfl rfl hb55 rfl rfl (does_move rfl) ?_
                                                    refine okL_guard 115 (tB (a0 == 35)) 113 ((x50 || (a0 == 10)) || (a0 == 34)) rfl rfl hb55 rfl rfl (does_eql rfl rfl) ?_
                                                    refine okL_step 116 (tB (a0 == 35)) rfl rfl (does_pick_f ((x50 || (a0 == 10)) || (a0 == 34)) rfl hb55 rfl) ?_
                                                    refine okL_nil ?_
                                                    exact okX_meet (I := _) (a0 == 35) (or_f hb55) (cc rfl (cc rfl (cc rfl (cc rfl cn)))) rfl
                                                · intro x64 hx
                                                  subst hx
                                                  change OkL _ _ _ _ [(0, (tI a0)), (2, (pAt g1 0)), (5, (pAt g9 0)), (116, (tB (((x50 || (a0 == 10)) || (a0 == 34)) || (a0 == 35))))] (Item.blk g9 113 [(tS y7), (tI r2), (tB ((((((x23 || (a0 == 7)) || (a0 == 8)) || (a0 == 9)) || (a0 == 33)) || (a0 == 35)) || (a0 == 37))), (tB ((((((x37 || (a0 == 10)) || (a0 == 13)) || (a0 == 14)) || (a0 == 33)) || (a0 == 34)) || (a0 == 36))), (tB false), (tB false), (tI s10)] :: Item.blk g1 113 [(tS ⟨#[]⟩), (tI 0), (tB false), (tB false), (tB false), (tB false), (tI 0)] :: L)
                                                  refine okL_step 117 (pAt g9 4) rfl rfl (does_fieldAddrP 4 Tryd.underlying113 rfl Tryd.sizeOf4 rfl rfl) ?_
                                                  refine okL_stepU rfl (doesO_storeB (ps := [(tB (((x50 || (a0 == 10)) || (a0 == 34)) || (a0 == 35)))]) 0 [(tS y7), (tI r2), (tB ((((((x23 || (a0 == 7)) || (a0 == 8)) || (a0 == 9)) || (a0 == 33)) || (a0 == 35)) || (a0 == 37))), (tB ((((((x37 || (a0 == 10)) || (a0 == 13)) || (a0 == 14)) || (a0 == 33)) || (a0 == 34)) || (a0 == 36))), (tB (((x50 || (a0 == 10)) || (a0 == 34)) || (a0 == 35))), (tB false), (tI s10)] (Item.blk g9 113 [(tS y7), (tI r2), (tB ((((((x23 || (a0 == 7)) || (a0 == 8)) || (a0 == 9)) || (a0 == 33)) || (a0 == 35)) || (a0 == 37))), (tB ((((((x37 || (a0 == 10)) || (a0 == 13)) || (a0 == 14)) || (a0 == 33)) || (a0 == 34)) || (a0 == 36))), (tB (((x50 || (a0 == 10)) || (a0 == 34)) || (a0 == 35))), (tB false), (tI s10)] :: Item.blk g1 113 [(tS ⟨#[]⟩), (tI 0), (tB false), (tB false), (tB false), (tB false), (tI 0)] :: L) rfl rfl (part_one (one_b _)) Tryd.sizeOf4 rfl rfl rfl rfl ?_)
                                                  refine okL_nil ?_
                                                  refine okX_next ?_
                                                  refine okC_seq ?_
                                                  refine okC_region ?_
                                                  refine okL_step 118 (tI a0) rfl rfl (does_move rfl) ?_
                                                  refine okL_step 119 (tB (a0 == 4)) rfl rfl (does_eql rfl rfl) ?_
                                                  refine okL_step 120 (tB (a0 == 4)) rfl rfl (does_move rfl) ?_
                                                  refine okL_meet (X := Bool) 3 (fun x => x = ((a0 == 4) || (a0 == 20))) (fun x : Bool => [(0, (tI a0)), (2, (pAt g1 0)), (5, (pAt g9 0)), (123, (tB x))]) (fun x : Bool => Item.blk g9 113 [(tS y7), (tI r2), (tB ((((((x23 || (a0 == 7)) || (a0 == 8)) || (a0 == 9)) || (a0 == 33)) || (a0 == 35)) || (a0 == 37))), (tB ((((((x37 || (a0 == 10)) || (a0 == 13)) || (a0 == 14)) || (a0 == 33)) || (a0 == 34)) || (a0 == 36))), (tB (((x50 || (a0 == 10)) || (a0 == 34)) || (a0 == 35))), (tB false), (tI s10)] :: Item.blk g1 113 [(tS ⟨#[]⟩), (tI 0), (tB false), (tB false), (tB false), (tB false), (tI 0)] :: L) _ rfl ?_ ?_
                                                  · refine okL_split (a0 == 4) (fun hb56 => ?_) (fun hb56 => ?_)
                                                    · refine okL_skip 121 120 (a0 == 4) rfl rfl hb56 rfl rfl ?_
                                                      refine okL_skip 122 120 (a0 == 4) rfl rfl hb56 rfl rfl ?_
                                                      refine okL_step 123 (tB true) rfl rfl (does_pick_t (a0 == 4) rfl hb56 rfl) ?_
                                                      refine okL_nil ?_
                                                      exact okX_meet (I := _) true (or_t hb56) (cc rfl (cc rfl (cc rfl (cc rfl cn)))) rfl
                                                    · refine okL_guard 121 (tI a0) 120 (a0 == 4) rfl rfl hb56 rfl rfl (does_move rfl) ?_
                                                      refine okL_guard 122 (tB (a0 == 20)) 120 (a0 == 4) rfl rfl hb56 rfl rfl (does_eql rfl rfl) ?_
                                                      refine okL_step 123 (tB (a0 == 20)) rfl rfl (does_pick_f (a0 == 4) rfl hb56 rfl) ?_
                                                      refine okL_nil ?_
                                                      exact okX_meet (I := _) (a0 == 20) (or_f hb56) (cc rfl (cc rfl (cc rfl (cc rfl cn)))) rfl
                                                  · intro x63 hx
                                                    subst hx
                                                    change OkL _ _ _ _ [(0, (tI a0)), (2, (pAt g1 0)), (5, (pAt g9 0)), (123, (tB ((a0 == 4) || (a0 == 20))))] (Item.blk g9 113 [(tS y7), (tI r2), (tB ((((((x23 || (a0 == 7)) || (a0 == 8)) || (a0 == 9)) || (a0 == 33)) || (a0 == 35)) || (a0 == 37))), (tB ((((((x37 || (a0 == 10)) || (a0 == 13)) || (a0 == 14)) || (a0 == 33)) || (a0 == 34)) || (a0 == 36))), (tB (((x50 || (a0 == 10)) || (a0 == 34)) || (a0 == 35))), (tB false), (tI s10)] :: Item.blk g1 113 [(tS ⟨#[]⟩), (tI 0), (tB false), (tB false), (tB false), (tB false), (tI 0)] :: L)
                                                    refine okL_step 124 (tB ((a0 == 4) || (a0 == 20))) rfl rfl (does_move rfl) ?_
                                                    refine okL_meet (X := Bool) 3 (fun x => x = (((a0 == 4) || (a0 == 20)) || (a0 == 21))) (fun x : Bool => [(0, (tI a0)), (2, (pAt g1 0)), (5, (pAt g9 0)), (127, (tB x))]) (fun x : Bool => Item.blk g9 113 [(tS y7), (tI r2), (tB ((((((x23 || (a0 == 7)) || (a0 == 8)) || (a0 == 9)) || (a0 == 33)) || (a0 == 35)) || (a0 == 37))), (tB ((((((x37 || (a0 == 10)) || (a0 == 13)) || (a0 == 14)) || (a0 == 33)) || (a0 == 34)) || (a0 == 36))), (tB (((x50 || (a0 == 10)) || (a0 == 34)) || (a0 == 35))), (tB false), (tI s10)] :: Item.blk g1 113 [(tS ⟨#[]⟩), (tI 0), (tB false), (tB false), (tB false), (tB false), (tI 0)] :: L) _ rfl ?_ ?_
                                                    · refine okL_split ((a0 == 4) || (a0 == 20)) (fun hb57 => ?_) (fun hb57 => ?_)
                                                      · refine okL_skip 125 124 ((a0 == 4) || (a0 == 20)) rfl rfl hb57 rfl rfl ?_
                                                        refine okL_skip 126 124 ((a0 == 4) || (a0 == 20)) rfl rfl hb57 rfl rfl ?_
                                                        refine okL_step 127 (tB true) rfl rfl (does_pick_t ((a0 == 4) || (a0 == 20)) rfl hb57 rfl) ?_
                                                        refine okL_nil ?_
                                                        exact okX_meet (I := _) true (or_t hb57) (cc rfl (cc rfl (cc rfl (cc rfl cn)))) rfl
                                                      · refine okL_guard 125 (tI a0) 124 ((a0 == 4) || (a0 == 20)) rfl rfl hb57 rfl rfl (does_move rfl) ?_
                                                        refine okL_guard 126 (tB (a0 == 21)) 124 ((a0 == 4) || (a0 == 20)) rfl rfl hb57 rfl rfl (does_eql rfl rfl) ?_
                                                        refine okL_step 127 (tB (a0 == 21)) rfl rfl (does_pick_f ((a0 == 4) || (a0 == 20)) rfl hb57 rfl) ?_
                                                        refine okL_nil ?_
                                                        exact okX_meet (I := _) (a0 == 21) (or_f hb57) (cc rfl (cc rfl (cc rfl (cc rfl cn)))) rfl
                                                    · intro x62 hx
                                                      subst hx
                                                      change OkL _ _ _ _ [(0, (tI a0)), (2, (pAt g1 0)), (5, (pAt g9 0)), (127, (tB (((a0 == 4) || (a0 == 20)) || (a0 == 21))))] (Item.blk g9 113 [(tS y7), (tI r2), (tB ((((((x23 || (a0 == 7)) || (a0 == 8)) || (a0 == 9)) || (a0 == 33)) || (a0 == 35)) || (a0 == 37))), (tB ((((((x37 || (a0 == 10)) || (a0 == 13)) || (a0 == 14)) || (a0 == 33)) || (a0 == 34)) || (a0 == 36))), (tB (((x50 || (a0 == 10)) || (a0 == 34)) || (a0 == 35))), (tB false), (tI s10)] :: Item.blk g1 113 [(tS ⟨#[]⟩), (tI 0), (tB false), (tB false), (tB false), (tB false), (tI 0)] :: L)
                                                      refine okL_step 128 (tB (((a0 == 4) || (a0 == 20)) || (a0 == 21))) rfl rfl (does_move rfl) ?_
                                                      refine okL_meet (X := Bool) 3 (fun x => x = ((((a0 == 4) || (a0 == 20)) || (a0 == 21)) || (a0 == 34))) (fun x : Bool => [(0, (tI a0)), (2, (pAt g1 0)), (5, (pAt g9 0)), (131, (tB x))]) (fun x : Bool => Item.blk g9 113 [(tS y7), (tI r2), (tB ((((((x23 || (a0 == 7)) || (a0 == 8)) || (a0 == 9)) || (a0 == 33)) || (a0 == 35)) || (a0 == 37))), (tB ((((((x37 || (a0 == 10)) || (a0 == 13)) || (a0 == 14)) || (a0 == 33)) || (a0 == 34)) || (a0 == 36))), (tB (((x50 || (a0 == 10)) || (a0 == 34)) || (a0 == 35))), (tB false), (tI s10)] :: Item.blk g1 113 [(tS ⟨#[]⟩), (tI 0), (tB false), (tB false), (tB false), (tB false), (tI 0)] :: L) _ rfl ?_ ?_
                                                      · refine okL_split (((a0 == 4) || (a0 == 20)) || (a0 == 21)) (fun hb58 => ?_) (fun hb58 => ?_)
                                                        · refine okL_skip 129 128 (((a0 == 4) || (a0 == 20)) || (a0 == 21)) rfl rfl hb58 rfl rfl ?_
                                                          refine okL_skip 130 128 (((a0 == 4) || (a0 == 20)) || (a0 == 21)) rfl rfl hb58 rfl rfl ?_
                                                          refine okL_step 131 (tB true) rfl rfl (does_pick_t (((a0 == 4) || (a0 == 20)) || (a0 == 21)) rfl hb58 rfl) ?_
                                                          refine okL_nil ?_
                                                          exact okX_meet (I := _) true (or_t hb58) (cc rfl (cc rfl (cc rfl (cc rfl cn)))) rfl
                                                        · refine okL_guard 129 (tI a0) 128 (((a0 == 4) || (a0 == 20)) || (a0 == 21)) rfl rfl hb58 rfl rfl (does_move rfl) ?_
                                                          refine okL_guard 130 (tB (a0 == 34)) 128 (((a0 == 4) || (a0 == 20)) || (a0 == 21)) rfl rfl hb58 rfl rfl (does_eql rfl rfl) ?_
                                                          refine okL_step 131 (tB (a0 == 34)) rfl rfl (does_pick_f (((a0 == 4) || (a0 == 20)) || (a0 == 21)) rfl hb58 rfl) ?_
                                                          refine okL_nil ?_
                                                          exact okX_meet (I := _) (a0 == 34) (or_f hb58) (cc rfl (cc rfl (cc rfl (cc rfl cn)))) rfl
                                                      · intro x61 hx
                                                        subst hx
                                                        change OkL _ _ _ _ [(0, (tI a0)), (2, (pAt g1 0)), (5, (pAt g9 0)), (131, (tB ((((a0 == 4) || (a0 == 20)) || (a0 == 21)) || (a0 == 34))))] (Item.blk g9 113 [(tS y7), (tI r2), (tB ((((((x23 || (a0 == 7)) || (a0 == 8)) || (a0 == 9)) || (a0 == 33)) || (a0 == 35)) || (a0 == 37))), (tB ((((((x37 || (a0 == 10)) || (a0 == 13)) || (a0 == 14)) || (a0 == 33)) || (a0 == 34)) || (a0 == 36))), (tB (((x50 || (a0 == 10)) || (a0 == 34)) || (a0 == 35))), (tB false), (tI s10)] :: Item.blk g1 113 [(tS ⟨#[]⟩), (tI 0), (tB false), (tB false), (tB false), (tB false), (tI 0)] :: L)
                                                        refine okL_step 132 (tB ((((a0 == 4) || (a0 == 20)) || (a0 == 21)) || (a0 == 34))) rfl rfl (does_move rfl) ?_
                                                        refine okL_meet (X := Bool) 3 (fun x => x = (((((a0 == 4) || (a0 == 20)) || (a0 == 21)) || (a0 == 34)) || (a0 == 35))) (fun x : Bool => [(2, (pAt g1 0)), (5, (pAt g9 0)), (135, (tB x))]) (fun x : Bool => Item.blk g9 113 [(tS y7), (tI r2), (tB ((((((x23 || (a0 == 7)) || (a0 == 8)) || (a0 == 9)) || (a0 == 33)) || (a0 == 35)) || (a0 == 37))), (tB ((((((x37 || (a0 == 10)) || (a0 == 13)) || (a0 == 14)) || (a0 == 33)) || (a0 == 34)) || (a0 == 36))), (tB (((x50 || (a0 == 10)) || (a0 == 34)) || (a0 == 35))), (tB false), (tI s10)] :: Item.blk g1 113 [(tS ⟨#[]⟩), (tI 0), (tB false), (tB false), (tB false), (tB false), (tI 0)] :: L) _ rfl ?_ ?_
                                                        · refine okL_split ((((a0 == 4) || (a0 == 20)) || (a0 == 21)) || (a0 == 34)) (fun hb59 => ?_) (fun hb59 => ?_)
                                                          · refine okL_skip 133 132 ((((a0 == 4) || (a0 == 20)) || (a0 == 21)) || (a0 == 34)) rfl rfl hb59 rfl rfl ?_
                                                            refine okL_skip 134 132 ((((a0 == 4) || (a0 == 20)) || (a0 == 21)) || (a0 == 34)) rfl rfl hb59 rfl rfl ?_
                                                            refine okL_step 135 (tB true) rfl rfl (does_pick_t ((((a0 == 4) || (a0 == 20)) || (a0 == 21)) || (a0 == 34)) rfl hb59 rfl) ?_
                                                            refine okL_nil ?_
                                                            exact okX_meet (I := _) true (or_t hb59) (cc rfl (cc rfl (cc rfl cn))) rfl
                                                          · refine okL_guard 133 (tI a0) 132 ((((a0 == 4) || (a0 == 20)) || (a0 == 21)) || (a0 == 34)) rfl rfl hb59 rfl rfl (does_move rfl) ?_
                                                            refine okL_guard 134 (tB (a0 == 35)) 132 ((((a0 == 4) || (a0 == 20)) || (a0 == 21)) || (a0 == 34)) rfl rfl hb59 rfl rfl (does_eql rfl rfl) ?_
                                                            refine okL_step 135 (tB (a0 == 35)) rfl rfl (does_pick_f ((((a0 == 4) || (a0 == 20)) || (a0 == 21)) || (a0 == 34)) rfl hb59 rfl) ?_
                                                            refine okL_nil ?_
                                                            exact okX_meet (I := _) (a0 == 35) (or_f hb59) (cc rfl (cc rfl (cc rfl cn))) rfl
                                                        · intro x60 hx
                                                          subst hx
                                                          change OkL _ _ _ _ [(2, (pAt g1 0)), (5, (pAt g9 0)), (135, (tB (((((a0 == 4) || (a0 == 20)) || (a0 == 21)) || (a0 == 34)) || (a0 == 35))))] (Item.blk g9 113 [(tS y7), (tI r2), (tB ((((((x23 || (a0 == 7)) || (a0 == 8)) || (a0 == 9)) || (a0 == 33)) || (a0 == 35)) || (a0 == 37))), (tB ((((((x37 || (a0 == 10)) || (a0 == 13)) || (a0 == 14)) || (a0 == 33)) || (a0 == 34)) || (a0 == 36))), (tB (((x50 || (a0 == 10)) || (a0 == 34)) || (a0 == 35))), (tB false), (tI s10)] :: Item.blk g1 113 [(tS ⟨#[]⟩), (tI 0), (tB false), (tB false), (tB false), (tB false), (tI 0)] :: L)
                                                          refine okL_step 136 (pAt g9 5) rfl rfl (does_fieldAddrP 5 Tryd.underlying113 rfl Tryd.sizeOf4 rfl rfl) ?_
                                                          refine okL_stepU rfl (doesO_storeB (ps := [(tB (((((a0 == 4) || (a0 == 20)) || (a0 == 21)) || (a0 == 34)) || (a0 == 35)))]) 0 [(tS y7), (tI r2), (tB ((((((x23 || (a0 == 7)) || (a0 == 8)) || (a0 == 9)) || (a0 == 33)) || (a0 == 35)) || (a0 == 37))), (tB ((((((x37 || (a0 == 10)) || (a0 == 13)) || (a0 == 14)) || (a0 == 33)) || (a0 == 34)) || (a0 == 36))), (tB (((x50 || (a0 == 10)) || (a0 == 34)) || (a0 == 35))), (tB (((((a0 == 4) || (a0 == 20)) || (a0 == 21)) || (a0 == 34)) || (a0 == 35))), (tI s10)] (Item.blk g9 113 [(tS y7), (tI r2), (tB ((((((x23 || (a0 == 7)) || (a0 == 8)) || (a0 == 9)) || (a0 == 33)) || (a0 == 35)) || (a0 == 37))), (tB ((((((x37 || (a0 == 10)) || (a0 == 13)) || (a0 == 14)) || (a0 == 33)) || (a0 == 34)) || (a0 == 36))), (tB (((x50 || (a0 == 10)) || (a0 == 34)) || (a0 == 35))), (tB (((((a0 == 4) || (a0 == 20)) || (a0 == 21)) || (a0 == 34)) || (a0 == 35))), (tI s10)] :: Item.blk g1 113 [(tS ⟨#[]⟩), (tI 0), (tB false), (tB false), (tB false), (tB false), (tI 0)] :: L) rfl rfl (part_one (one_b _)) Tryd.sizeOf4 rfl rfl rfl rfl ?_)
                                                          refine okL_nil ?_
                                                          refine okX_next ?_
                                                          refine okC_seq ?_
                                                          refine okC_region ?_
                                                          refine okL_step 137 (Ty.agg [(tS y7), (tI r2), (tB ((((((x23 || (a0 == 7)) || (a0 == 8)) || (a0 == 9)) || (a0 == 33)) || (a0 == 35)) || (a0 == 37))), (tB ((((((x37 || (a0 == 10)) || (a0 == 13)) || (a0 == 14)) || (a0 == 33)) || (a0 == 34)) || (a0 == 36))), (tB (((x50 || (a0 == 10)) || (a0 == 34)) || (a0 == 35))), (tB (((((a0 == 4) || (a0 == 20)) || (a0 == 21)) || (a0 == 34)) || (a0 == 35))), (tI s10)]) rfl rfl (does_loadBA [(tS y7), (tI r2), (tB ((((((x23 || (a0 == 7)) || (a0 == 8)) || (a0 == 9)) || (a0 == 33)) || (a0 == 35)) || (a0 == 37))), (tB ((((((x37 || (a0 == 10)) || (a0 == 13)) || (a0 == 14)) || (a0 == 33)) || (a0 == 34)) || (a0 == 36))), (tB (((x50 || (a0 == 10)) || (a0 == 34)) || (a0 == 35))), (tB (((((a0 == 4) || (a0 == 20)) || (a0 == 21)) || (a0 == 34)) || (a0 == 35))), (tI s10)] Tryd.isAgg113 Tryd.sizeOf113 rfl 0 rfl rfl rfl) ?_
                                                          refine okL_stepU rfl (doesO_storeB (ps := [(tS y7), (tI r2), (tB ((((((x23 || (a0 == 7)) || (a0 == 8)) || (a0 == 9)) || (a0 == 33)) || (a0 == 35)) || (a0 == 37))), (tB ((((((x37 || (a0 == 10)) || (a0 == 13)) || (a0 == 14)) || (a0 == 33)) || (a0 == 34)) || (a0 == 36))), (tB (((x50 || (a0 == 10)) || (a0 == 34)) || (a0 == 35))), (tB (((((a0 == 4) || (a0 == 20)) || (a0 == 21)) || (a0 == 34)) || (a0 == 35))), (tI s10)]) 1 [(tS y7), (tI r2), (tB ((((((x23 || (a0 == 7)) || (a0 == 8)) || (a0 == 9)) || (a0 == 33)) || (a0 == 35)) || (a0 == 37))), (tB ((((((x37 || (a0 == 10)) || (a0 == 13)) || (a0 == 14)) || (a0 == 33)) || (a0 == 34)) || (a0 == 36))), (tB (((x50 || (a0 == 10)) || (a0 == 34)) || (a0 == 35))), (tB (((((a0 == 4) || (a0 == 20)) || (a0 == 21)) || (a0 == 34)) || (a0 == 35))), (tI s10)] (Item.blk g9 113 [(tS y7), (tI r2), (tB ((((((x23 || (a0 == 7)) || (a0 == 8)) || (a0 == 9)) || (a0 == 33)) || (a0 == 35)) || (a0 == 37))), (tB ((((((x37 || (a0 == 10)) || (a0 == 13)) || (a0 == 14)) || (a0 == 33)) || (a0 == 34)) || (a0 == 36))), (tB (((x50 || (a0 == 10)) || (a0 == 34)) || (a0 == 35))), (tB (((((a0 == 4) || (a0 == 20)) || (a0 == 21)) || (a0 == 34)) || (a0 == 35))), (tI s10)] :: Item.blk g1 113 [(tS y7), (tI r2), (tB ((((((x23 || (a0 == 7)) || (a0 == 8)) || (a0 == 9)) || (a0 == 33)) || (a0 == 35)) || (a0 == 37))), (tB ((((((x37 || (a0 == 10)) || (a0 == 13)) || (a0 == 14)) || (a0 == 33)) || (a0 == 34)) || (a0 == 36))), (tB (((x50 || (a0 == 10)) || (a0 == 34)) || (a0 == 35))), (tB (((((a0 == 4) || (a0 == 20)) || (a0 == 21)) || (a0 == 34)) || (a0 == 35))), (tI s10)] :: L) rfl rfl (part_agg _) Tryd.sizeOf113 rfl rfl rfl rfl ?_)
                                                          refine okL_step 3 (tB true) rfl rfl (does_assign rfl) ?_
                                                          refine okL_nil ?_
                                                          refine okX_next ?_
                                                          refine okC_ret ?_
                                                          obtain rfl := (smh h).symm
                                                          exact okX_retCT () Tryd.results99 rfl rfl 1 rfl Tryd.isAgg113 Tryd.sizeOf113 rfl rfl [Item.blk g9 113 [(tS y7), (tI r2), (tB ((((((x23 || (a0 == 7)) || (a0 == 8)) || (a0 == 9)) || (a0 == 33)) || (a0 == 35)) || (a0 == 37))), (tB ((((((x37 || (a0 == 10)) || (a0 == 13)) || (a0 == 14)) || (a0 == 33)) || (a0 == 34)) || (a0 == 36))), (tB (((x50 || (a0 == 10)) || (a0 == 34)) || (a0 == 35))), (tB (((((a0 == 4) || (a0 == 20)) || (a0 == 21)) || (a0 == 34)) || (a0 == 35))), (tI s10)], Item.blk g1 113 [(tS y7), (tI r2), (tB ((((((x23 || (a0 == 7)) || (a0 == 8)) || (a0 == 9)) || (a0 == 33)) || (a0 == 35)) || (a0 == 37))), (tB ((((((x37 || (a0 == 10)) || (a0 == 13)) || (a0 == 14)) || (a0 == 33)) || (a0 == 34)) || (a0 == 36))), (tB (((x50 || (a0 == 10)) || (a0 == 34)) || (a0 == 35))), (tB (((((a0 == 4) || (a0 == 20)) || (a0 == 21)) || (a0 == 34)) || (a0 == 35))), (tI s10)]] (pm 0 rfl (pm 0 rfl (pr _)))

def ref32_info  (a0 : Int) : Option OpInfo :=
  (cnd (a0 == 38) (some (⟨⟨#[]⟩, 5, false, true, false, false, 0⟩ : OpInfo)) (Option.bind (ref29_Info a0) (fun r3 => (some r3.1))))

theorem c_ref32_info  (a0 : Int) (r : OpInfo) (h : ref32_info  a0 = some r) : CallP Tryd.prog glob 82 [(tI a0)] (Ty.agg [(tS r.Name), (tI r.Form), (tB r.ReadsA), (tB r.WritesA), (tB r.ReadsB), (tB r.MayTrap), (tI r.Words)]) := by
  refine call_of_code Tryd.func82 rfl Tryd.ntmps82 rfl (fun L w => ?_)
  change OkC _ _ _ [(0, (tI a0))] (L)
  unfold ref32_info at h
  refine okC_seq ?_
  refine okC_region ?_
  refine okL_stepO 2 rfl rfl (doesO_alloc [(tS ⟨#[]⟩), (tI 0), (tB false), (tB false), (tB false), (tB false), (tI 0)] Tryd.zeroValue113 (part_of (sub_agg [(.string ⟨#[]⟩), (.int .i64 0), (.bool false), (.bool false), (.bool false), (.bool false), (.int .i64 0)] rfl) (part_agg _)) (fun g1 => ?_))
  refine okL_nil ?_
  refine okX_next ?_
  refine okC_seq ?_
  refine okC_seq ?_
  refine okC_region ?_
  refine okL_step 5 (tI a0) rfl rfl (does_move rfl) ?_
  refine okL_step 6 (tB (a0 == 38)) rfl rfl (does_eql rfl rfl) ?_
  refine okL_nil ?_
  refine okX_next ?_
  refine okC_cond (b := (a0 == 38)) rfl (fun hb2 => ?_) (fun hb2 => ?_)
  · replace h := ct hb2 h
    refine okC_seq ?_
    refine okC_region ?_
    refine okL_step 7 (Ty.agg [(tS ⟨#[]⟩), (tI 5), (tB false), (tB true), (tB false), (tB false), (tI 0)]) rfl rfl (does_build [(tS ⟨#[]⟩), (tI 5), (tB false), (tB true), (tB false), (tB false), (tI 0)] Tryd.zeroValue113 Tryd.underlying113 (places113 _ Tryd.underlying113) rfl (fc [(tI 5)] 1 rfl (part_one (one_i _)) rfl rfl (fc [(tB true)] 3 rfl (part_one (one_b _)) rfl rfl (fn_ rfl)))) ?_
    refine okL_stepU rfl (doesO_storeB (ps := [(tS ⟨#[]⟩), (tI 5), (tB false), (tB true), (tB false), (tB false), (tI 0)]) 0 [(tS ⟨#[]⟩), (tI 5), (tB false), (tB true), (tB false), (tB false), (tI 0)] (Item.blk g1 113 [(tS ⟨#[]⟩), (tI 5), (tB false), (tB true), (tB false), (tB false), (tI 0)] :: L) rfl rfl (part_agg _) Tryd.sizeOf113 rfl rfl rfl rfl ?_)
    refine okL_nil ?_
    refine okX_next ?_
    refine okC_ret ?_
    refine okX_then_ret ?_
    obtain rfl := (smh h).symm
    exact okX_retC () Tryd.results82 rfl 0 rfl Tryd.isAgg113 Tryd.sizeOf113 rfl rfl [Item.blk g1 113 [(tS ⟨#[]⟩), (tI 5), (tB false), (tB true), (tB false), (tB false), (tI 0)]] (pm 0 rfl (pr _))
  · replace h := cf hb2 h
    refine okC_skip ?_
    refine okX_next ?_
    refine okC_seq ?_
    refine okC_region ?_
    refine okL_step 9 (tI a0) rfl rfl (does_move rfl) ?_
    obtain ⟨r3, hc4, h⟩ := bs h
    refine okL_step 10 (Ty.tup [(Ty.agg [(tS r3.1.Name), (tI r3.1.Form), (tB r3.1.ReadsA), (tB r3.1.WritesA), (tB r3.1.ReadsB), (tB r3.1.MayTrap), (tI r3.1.Words)]), (tB r3.2)]) rfl rfl (does_call0 (c_ref29_Info a0 r3 hc4) rfl Tryd.call99 rfl) ?_
    refine okL_step 8 (Ty.tup [(Ty.agg [(tS r3.1.Name), (tI r3.1.Form), (tB r3.1.ReadsA), (tB r3.1.WritesA), (tB r3.1.ReadsB), (tB r3.1.MayTrap), (tI r3.1.Words)]), (tB r3.2)]) rfl rfl (does_move rfl) ?_
    refine okL_step 11 (Ty.agg [(tS r3.1.Name), (tI r3.1.Form), (tB r3.1.ReadsA), (tB r3.1.WritesA), (tB r3.1.ReadsB), (tB r3.1.MayTrap), (tI r3.1.Words)]) rfl rfl (does_extract rfl rfl) ?_
    refine okL_step 12 (tB r3.2) rfl rfl (does_extract rfl rfl) ?_
    refine okL_stepO 3 rfl rfl (doesO_alloc [(tS ⟨#[]⟩), (tI 0), (tB false), (tB false), (tB false), (tB false), (tI 0)] Tryd.zeroValue113 (part_of (sub_agg [(.string ⟨#[]⟩), (.int .i64 0), (.bool false), (.bool false), (.bool false), (.bool false), (.int .i64 0)] rfl) (part_agg _)) (fun g5 => ?_))
    refine okL_stepU rfl (doesO_storeB (ps := [(tS r3.1.Name), (tI r3.1.Form), (tB r3.1.ReadsA), (tB r3.1.WritesA), (tB r3.1.ReadsB), (tB r3.1.MayTrap), (tI r3.1.Words)]) 0 [(tS r3.1.Name), (tI r3.1.Form), (tB r3.1.ReadsA), (tB r3.1.WritesA), (tB r3.1.ReadsB), (tB r3.1.MayTrap), (tI r3.1.Words)] (Item.blk g5 113 [(tS r3.1.Name), (tI r3.1.Form), (tB r3.1.ReadsA), (tB r3.1.WritesA), (tB r3.1.ReadsB), (tB r3.1.MayTrap), (tI r3.1.Words)] :: Item.blk g1 113 [(tS ⟨#[]⟩), (tI 0), (tB false), (tB false), (tB false), (tB false), (tI 0)] :: L) rfl rfl (part_agg _) Tryd.sizeOf113 rfl rfl rfl rfl ?_)
    refine okL_step 4 (tB r3.2) rfl rfl (does_assign rfl) ?_
    refine okL_nil ?_
    refine okX_next ?_
    refine okC_seq ?_
    refine okC_region ?_
    refine okL_step 13 (Ty.agg [(tS r3.1.Name), (tI r3.1.Form), (tB r3.1.ReadsA), (tB r3.1.WritesA), (tB r3.1.ReadsB), (tB r3.1.MayTrap), (tI r3.1.Words)]) rfl rfl (does_loadBA [(tS r3.1.Name), (tI r3.1.Form), (tB r3.1.ReadsA), (tB r3.1.WritesA), (tB r3.1.ReadsB), (tB r3.1.MayTrap), (tI r3.1.Words)] Tryd.isAgg113 Tryd.sizeOf113 rfl 0 rfl rfl rfl) ?_
    refine okL_stepU rfl (doesO_storeB (ps := [(tS r3.1.Name), (tI r3.1.Form), (tB r3.1.ReadsA), (tB r3.1.WritesA), (tB r3.1.ReadsB), (tB r3.1.MayTrap), (tI r3.1.Words)]) 1 [(tS r3.1.Name), (tI r3.1.Form), (tB r3.1.ReadsA), (tB r3.1.WritesA), (tB r3.1.ReadsB), (tB r3.1.MayTrap), (tI r3.1.Words)] (Item.blk g5 113 [(tS r3.1.Name), (tI r3.1.Form), (tB r3.1.ReadsA), (tB r3.1.WritesA), (tB r3.1.ReadsB), (tB r3.1.MayTrap), (tI r3.1.Words)] :: Item.blk g1 113 [(tS r3.1.Name), (tI r3.1.Form), (tB r3.1.ReadsA), (tB r3.1.WritesA), (tB r3.1.ReadsB), (tB r3.1.MayTrap), (tI r3.1.Words)] :: L) rfl rfl (part_agg _) Tryd.sizeOf113 rfl rfl rfl rfl ?_)
    refine okL_nil ?_
    refine okX_next ?_
    refine okC_ret ?_
    obtain rfl := (smh h).symm
    exact okX_retC () Tryd.results82 rfl 1 rfl Tryd.isAgg113 Tryd.sizeOf113 rfl rfl [Item.blk g5 113 [(tS r3.1.Name), (tI r3.1.Form), (tB r3.1.ReadsA), (tB r3.1.WritesA), (tB r3.1.ReadsB), (tB r3.1.MayTrap), (tI r3.1.Words)], Item.blk g1 113 [(tS r3.1.Name), (tI r3.1.Form), (tB r3.1.ReadsA), (tB r3.1.WritesA), (tB r3.1.ReadsB), (tB r3.1.MayTrap), (tI r3.1.Words)]] (pm 0 rfl (pm 0 rfl (pr _)))

def ref32_validInstr_l1 (K : Nat) (a0 : VInstr) (a1 : VFunc) : Nat → Int → Option (Unit ⊕ Bool)
  | 0, _ => none
  | k + 1, s16 => (cnd (decide (s16 < ((a0.Args).length : Int))) (Option.bind (Option.bind (idx a0.Args s16) (fun y24 => (cnd (decide (y24 < 0)) (some true) (Option.bind (idx a0.Args s16) (fun y27 => (some (decide (y27 ≥ a1.Regs)))))))) (fun s19 => (cnd s19 (out (some false)) (ref32_validInstr_l1 K a0 a1 k (w64 (s16 + 1)))))) (inn ()))

def ref32_validInstr (K : Nat) (a0 : VInstr) (a1 : VFunc) : Option Bool :=
  (Option.bind (ref32_allowed a0.Instr.Op) (fun r4 => (cnd (((!r4) || ((a0.Instr.Op != 6) && (decide (((a0.Args).length : Int) > 0)))) || (decide (((a0.Args).length : Int) > 6))) (some false) (sq (ref32_validInstr_l1 K a0 a1 K 0) (fun s11 => (Option.bind (ref32_info a0.Instr.Op) (fun r30 => (Option.bind (ref32_validOperand (r30.Form != 1) a0.Instr.A a1.Regs) (fun r34 => (Option.bind (cnd (!r34) (some true) (Option.bind (ref32_validOperand (((r30.Form == 3) || (r30.Form == 4)) || (r30.Form == 7)) a0.Instr.B a1.Regs) (fun r41 => (some (!r41))))) (fun x40 => (Option.bind (cnd x40 (some true) (Option.bind (ref32_validOperand (r30.Form == 4) a0.Instr.C a1.Regs) (fun r48 => (some (!r48))))) (fun x47 => (cnd x47 (some false) (cnd (a0.Instr.Op == 13) (some true) (cnd (a0.Instr.Op == 33) (some ((decide (a0.Instr.N ≥ (-4194304))) && (decide (a0.Instr.N < 4194304)))) (cnd (a0.Instr.Op == 6) (some ((decide (a0.Instr.N ≥ 0)) && (decide (a0.Instr.N < 8)))) (Option.bind (cnd (a0.Instr.Op == 34) (some (a0.Instr.Op == 34)) (some (a0.Instr.Op == 35))) (fun s58 => (cnd s58 (some ((decide (a0.Instr.N ≥ 0)) && (decide (a0.Instr.N < 4)))) (cnd (a0.Instr.Op == 38) (some ((decide (a0.Instr.N ≥ 0)) && (decide (a0.Instr.N < a1.Params)))) (some (a0.Instr.N == 0)))))))))))))))))))))))

def ref32_Writes  (a0 : VInstr) : Option (List Int) :=
  (Option.bind (ref32_allowed a0.Instr.Op) (fun r2 => (Option.bind (cnd r2 (Option.bind (ref32_info a0.Instr.Op) (fun r9 => (some (r9.WritesA || (a0.Instr.Op == 6))))) (some false)) (fun x8 => (cnd x8 (some ([a0.Instr.A] : List Int)) (some ([] : List Int)))))))

end Go.Proofs.YtocfnpnnbmicmaaDoor.Tc
