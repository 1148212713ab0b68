/- Written by gen.py: for each Go function a pure Lean function, and that the Go code comes to what it says. -/
import Derived.Test.YtocfnpnnbmicmaaDoorXRd1
set_option linter.unusedVariables false
set_option maxRecDepth 8000
set_option maxHeartbeats 4000000
namespace Go.Proofs.YtocfnpnnbmicmaaDoor.Tc
open Go Go.RowKit

def vcode_Valid_l2 (K : Nat) (a0 : VFunc) (y16 : Block) : Nat → Int → Option (Unit ⊕ (Unit ⊕ Bool))
  | 0, _ => none
  | k + 1, s24 => (cnd (decide (s24 < ((y16.Instrs).length : Int))) (Option.bind (idx y16.Instrs s24) (fun y27 => (Option.bind (vcode_validInstr K a0 y27) (fun r30 => (cnd (!r30) (out (out (some false))) (vcode_Valid_l2 K a0 y16 k (w64 (s24 + 1)))))))) (inn ()))

def vcode_Valid_l1 (K : Nat) (a0 : VFunc) : Nat → Int → Option (Unit ⊕ Bool)
  | 0, _ => none
  | k + 1, s13 => (cnd (decide (s13 < ((a0.Blocks).length : Int))) (Option.bind (idx a0.Blocks s13) (fun y16 => (sq (vcode_Valid_l2 K a0 y16 K 0) (fun s19 => (Option.bind (cnd (y16.End == 1) (Option.bind (vcode_Valid_1 y16.Target a0) (fun r39 => (some ((r39 && (y16.Reg == 0)) && (y16.Else == 0))))) (cnd (y16.End == 2) (Option.bind (vcode_Valid_1 y16.Target a0) (fun r46 => (Option.bind (cnd r46 (Option.bind (vcode_Valid_1 y16.Else a0) (fun r53 => (some r53))) (some false)) (fun x52 => (Option.bind (cnd x52 (Option.bind (vcode_Valid_2 y16.Reg a0) (fun r60 => (some r60))) (some false)) (fun x59 => (some x59))))))) (cnd (y16.End == 3) (Option.bind (vcode_Valid_2 y16.Reg a0) (fun r63 => (some ((r63 && (y16.Target == 0)) && (y16.Else == 0))))) (cnd (y16.End == 4) (some ((((decide (y16.Target ≥ 1)) && (decide (y16.Target < 33554432))) && (y16.Reg == 0)) && (y16.Else == 0))) (some false))))) (fun s33 => (cnd (!s33) (out (some false)) (vcode_Valid_l1 K a0 k (w64 (s13 + 1)))))))))) (inn ()))

def vcode_Valid (K : Nat) (a0 : VFunc) : Option Bool :=
  (cnd ((((((decide (a0.Params < 0)) || (decide (a0.Params > 6))) || (decide (a0.Regs < 0))) || (decide (a0.Regs > 3000))) || (decide (((a0.Blocks).length : Int) < 1))) || (decide (((a0.Blocks).length : Int) > 1000))) (some false) (sq (vcode_Valid_l1 K a0 K 0) (fun s8 => (some true))))

theorem c_vcode_Valid (K : Nat) (a0 : VFunc) (r : Bool) (h : vcode_Valid K a0 = some r) : CallP Tryd.prog glob 63 [(Ty.agg [(tI a0.Params), (tI a0.Regs), (tL 5 Block.ty a0.Blocks)])] (tB r) := by
  refine call_of_code Tryd.func63 rfl Tryd.ntmps63 rfl (fun L w => ?_)
  change OkC _ _ _ [(0, (Ty.agg [(tI a0.Params), (tI a0.Regs), (tL 5 Block.ty a0.Blocks)]))] (L)
  unfold vcode_Valid at h
  refine okC_seq ?_
  refine okC_region ?_
  refine okL_stepO 1 rfl rfl (doesO_box [(tI a0.Params), (tI a0.Regs), (tL 5 Block.ty a0.Blocks)] rfl (part_agg _) (fun g1 => ?_))
  refine okL_step 2 (tB false) rfl rfl (does_assign rfl) ?_
  refine okL_nil ?_
  refine okX_next ?_
  refine okC_seq ?_
  refine okC_seq ?_
  refine okC_region ?_
  refine okL_step 10 (pAt g1 0) rfl rfl (does_fieldAddrP 0 Tryd.underlying27 rfl Tryd.sizeOf3 rfl rfl) ?_
  refine okL_step 11 (tI a0.Params) rfl rfl (does_loadB1 Tryd.isAgg3 rfl 0 rfl rfl) ?_
  refine okL_step 12 (tB (decide (a0.Params < 0))) rfl rfl (does_lss rfl rfl) ?_
  refine okL_step 13 (tB (decide (a0.Params < 0))) rfl rfl (does_move rfl) ?_
  refine okL_meet (X := Bool) 4 (fun x => x = ((decide (a0.Params < 0)) || (decide (a0.Params > 6)))) (fun x : Bool => [(1, (pAt g1 0)), (17, (tB x))]) (fun x : Bool => Item.blk g1 27 [(tI a0.Params), (tI a0.Regs), (tL 5 Block.ty a0.Blocks)] :: L) _ rfl ?_ ?_
  · refine okL_split (decide (a0.Params < 0)) (fun hb2 => ?_) (fun hb2 => ?_)
    · refine okL_skip 14 13 (decide (a0.Params < 0)) rfl rfl hb2 rfl rfl ?_
      refine okL_skip 15 13 (decide (a0.Params < 0)) rfl rfl hb2 rfl rfl ?_
      refine okL_skip 16 13 (decide (a0.Params < 0)) rfl rfl hb2 rfl rfl ?_
      refine okL_step 17 (tB true) rfl rfl (does_pick_t (decide (a0.Params < 0)) rfl hb2 rfl) ?_
      refine okL_nil ?_
      exact okX_meet (I := _) true (or_t hb2) (cc rfl (cc rfl cn)) rfl
    · refine okL_guard 14 (pAt g1 0) 13 (decide (a0.Params < 0)) rfl rfl hb2 rfl rfl (does_fieldAddrP 0 Tryd.underlying27 rfl Tryd.sizeOf3 rfl rfl) ?_
      refine okL_guard 15 (tI a0.Params) 13 (decide (a0.Params < 0)) rfl rfl hb2 rfl rfl (does_loadB1 Tryd.isAgg3 rfl 0 rfl rfl) ?_
      refine okL_guard 16 (tB (decide (a0.Params > 6))) 13 (decide (a0.Params < 0)) rfl rfl hb2 rfl rfl (does_gtr rfl rfl) ?_
      refine okL_step 17 (tB (decide (a0.Params > 6))) rfl rfl (does_pick_f (decide (a0.Params < 0)) rfl hb2 rfl) ?_
      refine okL_nil ?_
      exact okX_meet (I := _) (decide (a0.Params > 6)) (or_f hb2) (cc rfl (cc rfl cn)) rfl
  · intro x81 hx
    subst hx
    change OkL _ _ _ _ [(1, (pAt g1 0)), (17, (tB ((decide (a0.Params < 0)) || (decide (a0.Params > 6)))))] (Item.blk g1 27 [(tI a0.Params), (tI a0.Regs), (tL 5 Block.ty a0.Blocks)] :: L)
    refine okL_step 18 (tB ((decide (a0.Params < 0)) || (decide (a0.Params > 6)))) rfl rfl (does_move rfl) ?_
    refine okL_meet (X := Bool) 4 (fun x => x = (((decide (a0.Params < 0)) || (decide (a0.Params > 6))) || (decide (a0.Regs < 0)))) (fun x : Bool => [(1, (pAt g1 0)), (22, (tB x))]) (fun x : Bool => Item.blk g1 27 [(tI a0.Params), (tI a0.Regs), (tL 5 Block.ty a0.Blocks)] :: L) _ rfl ?_ ?_
    · refine okL_split ((decide (a0.Params < 0)) || (decide (a0.Params > 6))) (fun hb3 => ?_) (fun hb3 => ?_)
      · refine okL_skip 19 18 ((decide (a0.Params < 0)) || (decide (a0.Params > 6))) rfl rfl hb3 rfl rfl ?_
        refine okL_skip 20 18 ((decide (a0.Params < 0)) || (decide (a0.Params > 6))) rfl rfl hb3 rfl rfl ?_
        refine okL_skip 21 18 ((decide (a0.Params < 0)) || (decide (a0.Params > 6))) rfl rfl hb3 rfl rfl ?_
        refine okL_step 22 (tB true) rfl rfl (does_pick_t ((decide (a0.Params < 0)) || (decide (a0.Params > 6))) rfl hb3 rfl) ?_
        refine okL_nil ?_
        exact okX_meet (I := _) true (or_t hb3) (cc rfl (cc rfl cn)) rfl
      · refine okL_guard 19 (pAt g1 1) 18 ((decide (a0.Params < 0)) || (decide (a0.Params > 6))) rfl rfl hb3 rfl rfl (does_fieldAddrP 1 Tryd.underlying27 rfl Tryd.sizeOf3 rfl rfl) ?_
        refine okL_guard 20 (tI a0.Regs) 18 ((decide (a0.Params < 0)) || (decide (a0.Params > 6))) rfl rfl hb3 rfl rfl (does_loadB1 Tryd.isAgg3 rfl 0 rfl rfl) ?_
        refine okL_guard 21 (tB (decide (a0.Regs < 0))) 18 ((decide (a0.Params < 0)) || (decide (a0.Params > 6))) rfl rfl hb3 rfl rfl (does_lss rfl rfl) ?_
        refine okL_step 22 (tB (decide (a0.Regs < 0))) rfl rfl (does_pick_f ((decide (a0.Params < 0)) || (decide (a0.Params > 6))) rfl hb3 rfl) ?_
        refine okL_nil ?_
        exact okX_meet (I := _) (decide (a0.Regs < 0)) (or_f hb3) (cc rfl (cc rfl cn)) rfl
    · intro x80 hx
      subst hx
      change OkL _ _ _ _ [(1, (pAt g1 0)), (22, (tB (((decide (a0.Params < 0)) || (decide (a0.Params > 6))) || (decide (a0.Regs < 0)))))] (Item.blk g1 27 [(tI a0.Params), (tI a0.Regs), (tL 5 Block.ty a0.Blocks)] :: L)
      refine okL_step 23 (tB (((decide (a0.Params < 0)) || (decide (a0.Params > 6))) || (decide (a0.Regs < 0)))) rfl rfl (does_move rfl) ?_
      refine okL_meet (X := Bool) 4 (fun x => x = ((((decide (a0.Params < 0)) || (decide (a0.Params > 6))) || (decide (a0.Regs < 0))) || (decide (a0.Regs > 3000)))) (fun x : Bool => [(1, (pAt g1 0)), (27, (tB x))]) (fun x : Bool => Item.blk g1 27 [(tI a0.Params), (tI a0.Regs), (tL 5 Block.ty a0.Blocks)] :: L) _ rfl ?_ ?_
      · refine okL_split (((decide (a0.Params < 0)) || (decide (a0.Params > 6))) || (decide (a0.Regs < 0))) (fun hb4 => ?_) (fun hb4 => ?_)
        · refine okL_skip 24 23 (((decide (a0.Params < 0)) || (decide (a0.Params > 6))) || (decide (a0.Regs < 0))) rfl rfl hb4 rfl rfl ?_
          refine okL_skip 25 23 (((decide (a0.Params < 0)) || (decide (a0.Params > 6))) || (decide (a0.Regs < 0))) rfl rfl hb4 rfl rfl ?_
          refine okL_skip 26 23 (((decide (a0.Params < 0)) || (decide (a0.Params > 6))) || (decide (a0.Regs < 0))) rfl rfl hb4 rfl rfl ?_
          refine okL_step 27 (tB true) rfl rfl (does_pick_t (((decide (a0.Params < 0)) || (decide (a0.Params > 6))) || (decide (a0.Regs < 0))) rfl hb4 rfl) ?_
          refine okL_nil ?_
          exact okX_meet (I := _) true (or_t hb4) (cc rfl (cc rfl cn)) rfl
        · refine okL_guard 24 (pAt g1 1) 23 (((decide (a0.Params < 0)) || (decide (a0.Params > 6))) || (decide (a0.Regs < 0))) rfl rfl hb4 rfl rfl (does_fieldAddrP 1 Tryd.underlying27 rfl Tryd.sizeOf3 rfl rfl) ?_
          refine okL_guard 25 (tI a0.Regs) 23 (((decide (a0.Params < 0)) || (decide (a0.Params > 6))) || (decide (a0.Regs < 0))) rfl rfl hb4 rfl rfl (does_loadB1 Tryd.isAgg3 rfl 0 rfl rfl) ?_
          refine okL_guard 26 (tB (decide (a0.Regs > 3000))) 23 (((decide (a0.Params < 0)) || (decide (a0.Params > 6))) || (decide (a0.Regs < 0))) rfl rfl hb4 rfl rfl (does_gtr rfl rfl) ?_
          refine okL_step 27 (tB (decide (a0.Regs > 3000))) rfl rfl (does_pick_f (((decide (a0.Params < 0)) || (decide (a0.Params > 6))) || (decide (a0.Regs < 0))) rfl hb4 rfl) ?_
          refine okL_nil ?_
          exact okX_meet (I := _) (decide (a0.Regs > 3000)) (or_f hb4) (cc rfl (cc rfl cn)) rfl
      · intro x79 hx
        subst hx
        change OkL _ _ _ _ [(1, (pAt g1 0)), (27, (tB ((((decide (a0.Params < 0)) || (decide (a0.Params > 6))) || (decide (a0.Regs < 0))) || (decide (a0.Regs > 3000)))))] (Item.blk g1 27 [(tI a0.Params), (tI a0.Regs), (tL 5 Block.ty a0.Blocks)] :: L)
        refine okL_step 28 (tB ((((decide (a0.Params < 0)) || (decide (a0.Params > 6))) || (decide (a0.Regs < 0))) || (decide (a0.Regs > 3000)))) rfl rfl (does_move rfl) ?_
        refine okL_meet (X := Bool) 5 (fun x => x = (((((decide (a0.Params < 0)) || (decide (a0.Params > 6))) || (decide (a0.Regs < 0))) || (decide (a0.Regs > 3000))) || (decide (((a0.Blocks).length : Int) < 1)))) (fun x : Bool => [(1, (pAt g1 0)), (33, (tB x))]) (fun x : Bool => Item.blk g1 27 [(tI a0.Params), (tI a0.Regs), (tL 5 Block.ty a0.Blocks)] :: L) _ rfl ?_ ?_
        · refine okL_split ((((decide (a0.Params < 0)) || (decide (a0.Params > 6))) || (decide (a0.Regs < 0))) || (decide (a0.Regs > 3000))) (fun hb5 => ?_) (fun hb5 => ?_)
          · refine okL_skip 29 28 ((((decide (a0.Params < 0)) || (decide (a0.Params > 6))) || (decide (a0.Regs < 0))) || (decide (a0.Regs > 3000))) rfl rfl hb5 rfl rfl ?_
            refine okL_skip 30 28 ((((decide (a0.Params < 0)) || (decide (a0.Params > 6))) || (decide (a0.Regs < 0))) || (decide (a0.Regs > 3000))) rfl rfl hb5 rfl rfl ?_
            refine okL_skip 31 28 ((((decide (a0.Params < 0)) || (decide (a0.Params > 6))) || (decide (a0.Regs < 0))) || (decide (a0.Regs > 3000))) rfl rfl hb5 rfl rfl ?_
            refine okL_skip 32 28 ((((decide (a0.Params < 0)) || (decide (a0.Params > 6))) || (decide (a0.Regs < 0))) || (decide (a0.Regs > 3000))) rfl rfl hb5 rfl rfl ?_
            refine okL_step 33 (tB true) rfl rfl (does_pick_t ((((decide (a0.Params < 0)) || (decide (a0.Params > 6))) || (decide (a0.Regs < 0))) || (decide (a0.Regs > 3000))) rfl hb5 rfl) ?_
            refine okL_nil ?_
            exact okX_meet (I := _) true (or_t hb5) (cc rfl (cc rfl cn)) rfl
          · refine okL_guard 29 (pAt g1 2) 28 ((((decide (a0.Params < 0)) || (decide (a0.Params > 6))) || (decide (a0.Regs < 0))) || (decide (a0.Regs > 3000))) rfl rfl hb5 rfl rfl (does_fieldAddrP 2 Tryd.underlying27 rfl Tryd.sizeOf25 rfl rfl) ?_
            refine okL_guard 30 (tL 5 Block.ty a0.Blocks) 28 ((((decide (a0.Params < 0)) || (decide (a0.Params > 6))) || (decide (a0.Regs < 0))) || (decide (a0.Regs > 3000))) rfl rfl hb5 rfl rfl (does_loadB1 Tryd.isAgg25 rfl 0 rfl rfl) ?_
            refine okL_guard 31 (tI ((a0.Blocks).length : Int)) 28 ((((decide (a0.Params < 0)) || (decide (a0.Params > 6))) || (decide (a0.Regs < 0))) || (decide (a0.Regs > 3000))) rfl rfl hb5 rfl rfl (does_len (sz := 5) (f := Block.ty) (l := a0.Blocks) rfl Tryd.underlying25 rfl) ?_
            refine okL_guard 32 (tB (decide (((a0.Blocks).length : Int) < 1))) 28 ((((decide (a0.Params < 0)) || (decide (a0.Params > 6))) || (decide (a0.Regs < 0))) || (decide (a0.Regs > 3000))) rfl rfl hb5 rfl rfl (does_lss rfl rfl) ?_
            refine okL_step 33 (tB (decide (((a0.Blocks).length : Int) < 1))) rfl rfl (does_pick_f ((((decide (a0.Params < 0)) || (decide (a0.Params > 6))) || (decide (a0.Regs < 0))) || (decide (a0.Regs > 3000))) rfl hb5 rfl) ?_
            refine okL_nil ?_
            exact okX_meet (I := _) (decide (((a0.Blocks).length : Int) < 1)) (or_f hb5) (cc rfl (cc rfl cn)) rfl
        · intro x78 hx
          subst hx
          change OkL _ _ _ _ [(1, (pAt g1 0)), (33, (tB (((((decide (a0.Params < 0)) || (decide (a0.Params > 6))) || (decide (a0.Regs < 0))) || (decide (a0.Regs > 3000))) || (decide (((a0.Blocks).length : Int) < 1)))))] (Item.blk g1 27 [(tI a0.Params), (tI a0.Regs), (tL 5 Block.ty a0.Blocks)] :: L)
          refine okL_step 34 (tB (((((decide (a0.Params < 0)) || (decide (a0.Params > 6))) || (decide (a0.Regs < 0))) || (decide (a0.Regs > 3000))) || (decide (((a0.Blocks).length : Int) < 1)))) rfl rfl (does_move rfl) ?_
          refine okL_meet (X := Bool) 5 (fun x => x = ((((((decide (a0.Params < 0)) || (decide (a0.Params > 6))) || (decide (a0.Regs < 0))) || (decide (a0.Regs > 3000))) || (decide (((a0.Blocks).length : Int) < 1))) || (decide (((a0.Blocks).length : Int) > 1000)))) (fun x : Bool => [(1, (pAt g1 0)), (39, (tB x))]) (fun x : Bool => Item.blk g1 27 [(tI a0.Params), (tI a0.Regs), (tL 5 Block.ty a0.Blocks)] :: L) _ rfl ?_ ?_
          · refine okL_split (((((decide (a0.Params < 0)) || (decide (a0.Params > 6))) || (decide (a0.Regs < 0))) || (decide (a0.Regs > 3000))) || (decide (((a0.Blocks).length : Int) < 1))) (fun hb6 => ?_) (fun hb6 => ?_)
            · refine okL_skip 35 34 (((((decide (a0.Params < 0)) || (decide (a0.Params > 6))) || (decide (a0.Regs < 0))) || (decide (a0.Regs > 3000))) || (decide (((a0.Blocks).length : Int) < 1))) rfl rfl hb6 rfl rfl ?_
              refine okL_skip 36 34 (((((decide (a0.Params < 0)) || (decide (a0.Params > 6))) || (decide (a0.Regs < 0))) || (decide (a0.Regs > 3000))) || (decide (((a0.Blocks).length : Int) < 1))) rfl rfl hb6 rfl rfl ?_
              refine okL_skip 37 34 (((((decide (a0.Params < 0)) || (decide (a0.Params > 6))) || (decide (a0.Regs < 0))) || (decide (a0.Regs > 3000))) || (decide (((a0.Blocks).length : Int) < 1))) rfl rfl hb6 rfl rfl ?_
              refine okL_skip 38 34 (((((decide (a0.Params < 0)) || (decide (a0.Params > 6))) || (decide (a0.Regs < 0))) || (decide (a0.Regs > 3000))) || (decide (((a0.Blocks).length : Int) < 1))) rfl rfl hb6 rfl rfl ?_
              refine okL_step 39 (tB true) rfl rfl (does_pick_t (((((decide (a0.Params < 0)) || (decide (a0.Params > 6))) || (decide (a0.Regs < 0))) || (decide (a0.Regs > 3000))) || (decide (((a0.Blocks).length : Int) < 1))) rfl hb6 rfl) ?_
              refine okL_nil ?_
              exact okX_meet (I := _) true (or_t hb6) (cc rfl (cc rfl cn)) rfl
            · refine okL_guard 35 (pAt g1 2) 34 (((((decide (a0.Params < 0)) || (decide (a0.Params > 6))) || (decide (a0.Regs < 0))) || (decide (a0.Regs > 3000))) || (decide (((a0.Blocks).length : Int) < 1))) rfl rfl hb6 rfl rfl (does_fieldAddrP 2 Tryd.underlying27 rfl Tryd.sizeOf25 rfl rfl) ?_
              refine okL_guard 36 (tL 5 Block.ty a0.Blocks) 34 (((((decide (a0.Params < 0)) || (decide (a0.Params > 6))) || (decide (a0.Regs < 0))) || (decide (a0.Regs > 3000))) || (decide (((a0.Blocks).length : Int) < 1))) rfl rfl hb6 rfl rfl (does_loadB1 Tryd.isAgg25 rfl 0 rfl rfl) ?_
              refine okL_guard 37 (tI ((a0.Blocks).length : Int)) 34 (((((decide (a0.Params < 0)) || (decide (a0.Params > 6))) || (decide (a0.Regs < 0))) || (decide (a0.Regs > 3000))) || (decide (((a0.Blocks).length : Int) < 1))) rfl rfl hb6 rfl rfl (does_len (sz := 5) (f := Block.ty) (l := a0.Blocks) rfl Tryd.underlying25 rfl) ?_
              refine okL_guard 38 (tB (decide (((a0.Blocks).length : Int) > 1000))) 34 (((((decide (a0.Params < 0)) || (decide (a0.Params > 6))) || (decide (a0.Regs < 0))) || (decide (a0.Regs > 3000))) || (decide (((a0.Blocks).length : Int) < 1))) rfl rfl hb6 rfl rfl (does_gtr rfl rfl) ?_
              refine okL_step 39 (tB (decide (((a0.Blocks).length : Int) > 1000))) rfl rfl (does_pick_f (((((decide (a0.Params < 0)) || (decide (a0.Params > 6))) || (decide (a0.Regs < 0))) || (decide (a0.Regs > 3000))) || (decide (((a0.Blocks).length : Int) < 1))) rfl hb6 rfl) ?_
              refine okL_nil ?_
              exact okX_meet (I := _) (decide (((a0.Blocks).length : Int) > 1000)) (or_f hb6) (cc rfl (cc rfl cn)) rfl
          · intro x77 hx
            subst hx
            change OkL _ _ _ _ [(1, (pAt g1 0)), (39, (tB ((((((decide (a0.Params < 0)) || (decide (a0.Params > 6))) || (decide (a0.Regs < 0))) || (decide (a0.Regs > 3000))) || (decide (((a0.Blocks).length : Int) < 1))) || (decide (((a0.Blocks).length : Int) > 1000)))))] (Item.blk g1 27 [(tI a0.Params), (tI a0.Regs), (tL 5 Block.ty a0.Blocks)] :: L)
            refine okL_nil ?_
            refine okX_next ?_
            refine okC_cond (b := ((((((decide (a0.Params < 0)) || (decide (a0.Params > 6))) || (decide (a0.Regs < 0))) || (decide (a0.Regs > 3000))) || (decide (((a0.Blocks).length : Int) < 1))) || (decide (((a0.Blocks).length : Int) > 1000)))) rfl (fun hb7 => ?_) (fun hb7 => ?_)
            · replace h := ct hb7 h
              refine okC_seq ?_
              refine okC_region ?_
              refine okL_step 2 (tB false) rfl rfl (does_assign rfl) ?_
              refine okL_nil ?_
              refine okX_next ?_
              refine okC_ret ?_
              refine okX_then_ret ?_
              obtain rfl := (smh h).symm
              refine okX_items [Item.blk g1 27 [(tI a0.Params), (tI a0.Regs), (tL 5 Block.ty a0.Blocks)]] (L) (pm 0 rfl (pr _)) ?_
              exact okX_ret1 () Tryd.results63 rfl rfl
            · replace h := cf hb7 h
              refine okC_skip ?_
              refine okX_next ?_
              refine okC_seq ?_
              refine okC_region ?_
              refine okL_step 40 (Ty.val (.func (.func 101) #[] #[(.pointer (some ⟨g1, 0, none⟩))])) rfl rfl (does_makeFunc (vs := [(.pointer (some ⟨g1, 0, none⟩))]) rfl) ?_
              refine okL_step 3 (Ty.val (.func (.func 101) #[] #[(.pointer (some ⟨g1, 0, none⟩))])) rfl rfl (does_assign rfl) ?_
              refine okL_nil ?_
              refine okX_next ?_
              refine okC_seq ?_
              refine okC_region ?_
              refine okL_step 41 (Ty.val (.func (.func 102) #[] #[(.pointer (some ⟨g1, 0, none⟩))])) rfl rfl (does_makeFunc (vs := [(.pointer (some ⟨g1, 0, none⟩))]) rfl) ?_
              refine okL_step 4 (Ty.val (.func (.func 102) #[] #[(.pointer (some ⟨g1, 0, none⟩))])) rfl rfl (does_assign rfl) ?_
              refine okL_nil ?_
              refine okX_next ?_
              refine okC_seq ?_
              refine okC_seq ?_
              refine okC_region ?_
              refine okL_step 42 (pAt g1 2) rfl rfl (does_fieldAddrP 2 Tryd.underlying27 rfl Tryd.sizeOf25 rfl rfl) ?_
              refine okL_step 43 (tL 5 Block.ty a0.Blocks) rfl rfl (does_loadB1 Tryd.isAgg25 rfl 0 rfl rfl) ?_
              refine okL_step 44 (tI ((a0.Blocks).length : Int)) rfl rfl (does_len (sz := 5) (f := Block.ty) (l := a0.Blocks) rfl Tryd.underlying25 rfl) ?_
              refine okL_step 45 (tI 0) rfl rfl (does_move rfl) ?_
              refine okL_nil ?_
              refine okX_next ?_
              obtain ⟨z10, h12, hz11⟩ := sqs h
              refine okC_meetE (X := Unit) (fun x => z10 = .inl x) (fun x : Unit => []) (fun x : Unit => Item.blk g1 27 [(tI a0.Params), (tI a0.Regs), (tL 5 Block.ty a0.Blocks)] :: L) ?_ ?_
              · refine okC_block ?_
                refine okC_loop (X := Int) (fun k x => vcode_Valid_l1 K a0 k x = some z10) (fun x : Int => [(1, (pAt g1 0)), (3, (Ty.val (.func (.func 101) #[] #[(.pointer (some ⟨g1, 0, none⟩))]))), (4, (Ty.val (.func (.func 102) #[] #[(.pointer (some ⟨g1, 0, none⟩))]))), (43, (tL 5 Block.ty a0.Blocks)), (44, (tI ((a0.Blocks).length : Int))), (45, (tI x))]) (fun x : Int => Item.blk g1 27 [(tI a0.Params), (tI a0.Regs), (tL 5 Block.ty a0.Blocks)] :: L) K 0 h12 (cc rfl (cc rfl (cc rfl (cc rfl (cc rfl (cc rfl cn)))))) rfl (fun k s13 hI => ?_)
                change OkC _ _ _ [(1, (pAt g1 0)), (3, (Ty.val (.func (.func 101) #[] #[(.pointer (some ⟨g1, 0, none⟩))]))), (4, (Ty.val (.func (.func 102) #[] #[(.pointer (some ⟨g1, 0, none⟩))]))), (43, (tL 5 Block.ty a0.Blocks)), (44, (tI ((a0.Blocks).length : Int))), (45, (tI s13))] (Item.blk g1 27 [(tI a0.Params), (tI a0.Regs), (tL 5 Block.ty a0.Blocks)] :: L)
                cases k with
                | zero => exact (nz hI).elim
                | succ k =>
                  have h : vcode_Valid_l1 K a0 (k + 1) s13 = some z10 := hI
                  rw [vcode_Valid_l1.eq_2] at h
                  refine okC_seq ?_
                  refine okC_region ?_
                  refine okL_step 46 (tB (decide (s13 < ((a0.Blocks).length : Int)))) rfl rfl (does_lss rfl rfl) ?_
                  refine okL_nil ?_
                  refine okX_next ?_
                  refine okC_seq ?_
                  refine okC_cond (b := (decide (s13 < ((a0.Blocks).length : Int)))) rfl (fun hb15 => ?_) (fun hb15 => ?_)
                  · replace h := ct hb15 h
                    refine okC_skip ?_
                    refine okX_next ?_
                    refine okC_seq ?_
                    refine okC_block ?_
                    refine okC_seq ?_
                    refine okC_region ?_
                    obtain ⟨y16, hi17, h⟩ := bs h
                    refine okL_step 47 (Ty.ptr [(tL 6 VInstr.ty y16.Instrs), (tI y16.End), (tI y16.Reg), (tI y16.Target), (tI y16.Else)]) rfl rfl (does_index (sz := 5) (f := Block.ty) (l := a0.Blocks) (n := s13) y16 Tryd.underlying25 Tryd.sizeOf43 hi17 rfl rfl) ?_
                    refine okL_step 48 (Ty.agg [(tL 6 VInstr.ty y16.Instrs), (tI y16.End), (tI y16.Reg), (tI y16.Target), (tI y16.Else)]) rfl rfl (does_loadA [(tL 6 VInstr.ty y16.Instrs), (tI y16.End), (tI y16.Reg), (tI y16.Target), (tI y16.Else)] Tryd.isAgg43 Tryd.sizeOf43 rfl rfl rfl) ?_
                    refine okL_stepO 6 rfl rfl (doesO_alloc [(Ty.val (.slice none 0 0)), (tI 0), (tI 0), (tI 0), (tI 0)] Tryd.zeroValue43 (part_of (sub_agg [(.slice none 0 0), (.int .i64 0), (.int .i64 0), (.int .i64 0), (.int .i64 0)] rfl) (part_agg _)) (fun g18 => ?_))
                    refine okL_stepU rfl (doesO_storeB (ps := [(tL 6 VInstr.ty y16.Instrs), (tI y16.End), (tI y16.Reg), (tI y16.Target), (tI y16.Else)]) 0 [(tL 6 VInstr.ty y16.Instrs), (tI y16.End), (tI y16.Reg), (tI y16.Target), (tI y16.Else)] (Item.blk g18 43 [(tL 6 VInstr.ty y16.Instrs), (tI y16.End), (tI y16.Reg), (tI y16.Target), (tI y16.Else)] :: Item.blk g1 27 [(tI a0.Params), (tI a0.Regs), (tL 5 Block.ty a0.Blocks)] :: L) rfl rfl (part_agg _) Tryd.sizeOf43 rfl rfl rfl rfl ?_)
                    refine okL_nil ?_
                    refine okX_next ?_
                    refine okC_seq ?_
                    refine okC_seq ?_
                    refine okC_region ?_
                    refine okL_step 49 (pAt g18 0) rfl rfl (does_fieldAddrP 0 Tryd.underlying43 rfl Tryd.sizeOf41 rfl rfl) ?_
                    refine okL_step 50 (tL 6 VInstr.ty y16.Instrs) rfl rfl (does_loadB1 Tryd.isAgg41 rfl 0 rfl rfl) ?_
                    refine okL_step 51 (tI ((y16.Instrs).length : Int)) rfl rfl (does_len (sz := 6) (f := VInstr.ty) (l := y16.Instrs) rfl Tryd.underlying41 rfl) ?_
                    refine okL_step 52 (tI 0) rfl rfl (does_move rfl) ?_
                    refine okL_nil ?_
                    refine okX_next ?_
                    obtain ⟨z21, h23, hz22⟩ := sqs h
                    refine okC_meetE (X := Unit) (fun x => z21 = .inl x) (fun x : Unit => [(1, (pAt g1 0)), (3, (Ty.val (.func (.func 101) #[] #[(.pointer (some ⟨g1, 0, none⟩))]))), (4, (Ty.val (.func (.func 102) #[] #[(.pointer (some ⟨g1, 0, none⟩))]))), (6, (pAt g18 0)), (43, (tL 5 Block.ty a0.Blocks)), (44, (tI ((a0.Blocks).length : Int))), (45, (tI s13))]) (fun x : Unit => Item.blk g18 43 [(tL 6 VInstr.ty y16.Instrs), (tI y16.End), (tI y16.Reg), (tI y16.Target), (tI y16.Else)] :: Item.blk g1 27 [(tI a0.Params), (tI a0.Regs), (tL 5 Block.ty a0.Blocks)] :: L) ?_ ?_
                    · refine okC_block ?_
                      refine okC_loop (X := Int) (fun k x => vcode_Valid_l2 K a0 y16 k x = some z21) (fun x : Int => [(1, (pAt g1 0)), (3, (Ty.val (.func (.func 101) #[] #[(.pointer (some ⟨g1, 0, none⟩))]))), (4, (Ty.val (.func (.func 102) #[] #[(.pointer (some ⟨g1, 0, none⟩))]))), (6, (pAt g18 0)), (43, (tL 5 Block.ty a0.Blocks)), (44, (tI ((a0.Blocks).length : Int))), (45, (tI s13)), (50, (tL 6 VInstr.ty y16.Instrs)), (51, (tI ((y16.Instrs).length : Int))), (52, (tI x))]) (fun x : Int => Item.blk g18 43 [(tL 6 VInstr.ty y16.Instrs), (tI y16.End), (tI y16.Reg), (tI y16.Target), (tI y16.Else)] :: Item.blk g1 27 [(tI a0.Params), (tI a0.Regs), (tL 5 Block.ty a0.Blocks)] :: L) K 0 h23 (cc rfl (cc rfl (cc rfl (cc rfl (cc rfl (cc rfl (cc rfl (cc rfl (cc rfl (cc rfl cn)))))))))) rfl (fun k s24 hI => ?_)
                      change OkC _ _ _ [(1, (pAt g1 0)), (3, (Ty.val (.func (.func 101) #[] #[(.pointer (some ⟨g1, 0, none⟩))]))), (4, (Ty.val (.func (.func 102) #[] #[(.pointer (some ⟨g1, 0, none⟩))]))), (6, (pAt g18 0)), (43, (tL 5 Block.ty a0.Blocks)), (44, (tI ((a0.Blocks).length : Int))), (45, (tI s13)), (50, (tL 6 VInstr.ty y16.Instrs)), (51, (tI ((y16.Instrs).length : Int))), (52, (tI s24))] (Item.blk g18 43 [(tL 6 VInstr.ty y16.Instrs), (tI y16.End), (tI y16.Reg), (tI y16.Target), (tI y16.Else)] :: Item.blk g1 27 [(tI a0.Params), (tI a0.Regs), (tL 5 Block.ty a0.Blocks)] :: L)
                      cases k with
                      | zero => exact (nz hI).elim
                      | succ k =>
                        have h : vcode_Valid_l2 K a0 y16 (k + 1) s24 = some z21 := hI
                        rw [vcode_Valid_l2.eq_2] at h
                        refine okC_seq ?_
                        refine okC_region ?_
                        refine okL_step 53 (tB (decide (s24 < ((y16.Instrs).length : Int)))) rfl rfl (does_lss rfl rfl) ?_
                        refine okL_nil ?_
                        refine okX_next ?_
                        refine okC_seq ?_
                        refine okC_cond (b := (decide (s24 < ((y16.Instrs).length : Int)))) rfl (fun hb26 => ?_) (fun hb26 => ?_)
                        · replace h := ct hb26 h
                          refine okC_skip ?_
                          refine okX_next ?_
                          refine okC_seq ?_
                          refine okC_block ?_
                          refine okC_seq ?_
                          refine okC_region ?_
                          obtain ⟨y27, hi28, h⟩ := bs h
                          refine okL_step 54 (Ty.ptr [(tI y27.Instr.Op), (tI y27.Instr.A), (tI y27.Instr.B), (tI y27.Instr.C), (tI y27.Instr.N), (tL 1 lI y27.Args)]) rfl rfl (does_index (sz := 6) (f := VInstr.ty) (l := y16.Instrs) (n := s24) y27 Tryd.underlying41 Tryd.sizeOf48 hi28 rfl rfl) ?_
                          refine okL_step 55 (Ty.agg [(tI y27.Instr.Op), (tI y27.Instr.A), (tI y27.Instr.B), (tI y27.Instr.C), (tI y27.Instr.N), (tL 1 lI y27.Args)]) rfl rfl (does_loadA [(tI y27.Instr.Op), (tI y27.Instr.A), (tI y27.Instr.B), (tI y27.Instr.C), (tI y27.Instr.N), (tL 1 lI y27.Args)] Tryd.isAgg48 Tryd.sizeOf48 rfl rfl rfl) ?_
                          refine okL_stepO 8 rfl rfl (doesO_alloc [(tI 0), (tI 0), (tI 0), (tI 0), (tI 0), (Ty.val (.slice none 0 0))] Tryd.zeroValue48 (part_of (sub_agg [(.int .i64 0), (.int .i64 0), (.int .i64 0), (.int .i64 0), (.int .i64 0), (.slice none 0 0)] rfl) (part_agg _)) (fun g29 => ?_))
                          refine okL_stepU rfl (doesO_storeB (ps := [(tI y27.Instr.Op), (tI y27.Instr.A), (tI y27.Instr.B), (tI y27.Instr.C), (tI y27.Instr.N), (tL 1 lI y27.Args)]) 0 [(tI y27.Instr.Op), (tI y27.Instr.A), (tI y27.Instr.B), (tI y27.Instr.C), (tI y27.Instr.N), (tL 1 lI y27.Args)] (Item.blk g29 48 [(tI y27.Instr.Op), (tI y27.Instr.A), (tI y27.Instr.B), (tI y27.Instr.C), (tI y27.Instr.N), (tL 1 lI y27.Args)] :: Item.blk g18 43 [(tL 6 VInstr.ty y16.Instrs), (tI y16.End), (tI y16.Reg), (tI y16.Target), (tI y16.Else)] :: Item.blk g1 27 [(tI a0.Params), (tI a0.Regs), (tL 5 Block.ty a0.Blocks)] :: L) rfl rfl (part_agg _) Tryd.sizeOf48 rfl rfl rfl rfl ?_)
                          refine okL_nil ?_
                          refine okX_next ?_
                          refine okC_seq ?_
                          refine okC_region ?_
                          refine okL_step 56 (Ty.agg [(tI a0.Params), (tI a0.Regs), (tL 5 Block.ty a0.Blocks)]) rfl rfl (does_loadBA [(tI a0.Params), (tI a0.Regs), (tL 5 Block.ty a0.Blocks)] Tryd.isAgg27 Tryd.sizeOf27 rfl 2 rfl rfl rfl) ?_
                          refine okL_step 57 (Ty.agg [(tI y27.Instr.Op), (tI y27.Instr.A), (tI y27.Instr.B), (tI y27.Instr.C), (tI y27.Instr.N), (tL 1 lI y27.Args)]) rfl rfl (does_loadBA [(tI y27.Instr.Op), (tI y27.Instr.A), (tI y27.Instr.B), (tI y27.Instr.C), (tI y27.Instr.N), (tL 1 lI y27.Args)] Tryd.isAgg48 Tryd.sizeOf48 rfl 0 rfl rfl rfl) ?_
                          obtain ⟨r30, hc31, h⟩ := bs h
                          refine okL_step 58 (tB r30) rfl rfl (does_call0 (c_vcode_validInstr K a0 y27 r30 hc31) rfl Tryd.call103 rfl) ?_
                          refine okL_step 59 (tB (!r30)) rfl rfl (does_not rfl) ?_
                          refine okL_nil ?_
                          refine okX_next ?_
                          refine okC_cond (b := (!r30)) rfl (fun hb32 => ?_) (fun hb32 => ?_)
                          · replace h := ct hb32 h
                            refine okC_seq ?_
                            refine okC_region ?_
                            refine okL_step 2 (tB false) rfl rfl (does_assign rfl) ?_
                            refine okL_nil ?_
                            refine okX_next ?_
                            refine okC_ret ?_
                            refine okX_block_ret ?_
                            refine okX_then_ret ?_
                            refine okX_again_ret ?_
                            refine okX_block_ret ?_
                            refine okX_meet_ret ?_
                            replace h := outh h hz22
                            refine okX_then_ret ?_
                            refine okX_block_ret ?_
                            refine okX_then_ret ?_
                            refine okX_again_ret ?_
                            refine okX_block_ret ?_
                            refine okX_meet_ret ?_
                            replace h := outh h hz11
                            refine okX_then_ret ?_
                            obtain rfl := (smh h).symm
                            refine okX_items [Item.blk g29 48 [(tI y27.Instr.Op), (tI y27.Instr.A), (tI y27.Instr.B), (tI y27.Instr.C), (tI y27.Instr.N), (tL 1 lI y27.Args)], Item.blk g18 43 [(tL 6 VInstr.ty y16.Instrs), (tI y16.End), (tI y16.Reg), (tI y16.Target), (tI y16.Else)], Item.blk g1 27 [(tI a0.Params), (tI a0.Regs), (tL 5 Block.ty a0.Blocks)]] (L) (pm 0 rfl (pm 0 rfl (pm 0 rfl (pr _)))) ?_
                            exact okX_ret1 () Tryd.results63 rfl rfl
                          · replace h := cf hb32 h
                            refine okC_skip ?_
                            refine okX_block_normal ?_
                            refine okX_next ?_
                            refine okC_region ?_
                            refine okL_step 60 (tI (w64 (s24 + 1))) rfl rfl (does_add rfl rfl) ?_
                            refine okL_step 52 (tI (w64 (s24 + 1))) rfl rfl (does_move rfl) ?_
                            refine okL_nil ?_
                            refine okX_items [Item.blk g29 48 [(tI y27.Instr.Op), (tI y27.Instr.A), (tI y27.Instr.B), (tI y27.Instr.C), (tI y27.Instr.N), (tL 1 lI y27.Args)]] (Item.blk g18 43 [(tL 6 VInstr.ty y16.Instrs), (tI y16.End), (tI y16.Reg), (tI y16.Target), (tI y16.Else)] :: Item.blk g1 27 [(tI a0.Params), (tI a0.Regs), (tL 5 Block.ty a0.Blocks)] :: L) (pm 0 rfl (pm 0 rfl (pm 0 rfl (pr _)))) ?_
                            exact okX_again k (Nat.lt_succ_self k) (w64 (s24 + 1)) h (cc rfl (cc rfl (cc rfl (cc rfl (cc rfl (cc rfl (cc rfl (cc rfl (cc rfl (cc rfl cn)))))))))) rfl
                        · replace h := cf hb26 h
                          refine okC_exit ?_
                          refine okX_then_exit ?_
                          refine okX_again_exit ?_
                          refine okX_block_hit ?_
                          exact okX_meet (I := _) () (innh h) (cc rfl (cc rfl (cc rfl (cc rfl (cc rfl (cc rfl (cc rfl cn))))))) rfl
                    · intro s19 hx
                      change OkX _ _ _ [(1, (pAt g1 0)), (3, (Ty.val (.func (.func 101) #[] #[(.pointer (some ⟨g1, 0, none⟩))]))), (4, (Ty.val (.func (.func 102) #[] #[(.pointer (some ⟨g1, 0, none⟩))]))), (6, (pAt g18 0)), (43, (tL 5 Block.ty a0.Blocks)), (44, (tI ((a0.Blocks).length : Int))), (45, (tI s13))] (Item.blk g18 43 [(tL 6 VInstr.ty y16.Instrs), (tI y16.End), (tI y16.Reg), (tI y16.Target), (tI y16.Else)] :: Item.blk g1 27 [(tI a0.Params), (tI a0.Regs), (tL 5 Block.ty a0.Blocks)] :: L)
                      have hx : z21 = .inl s19 := hx
                      subst hx
                      replace h := hz22
                      refine okX_next ?_
                      refine okC_seq ?_
                      refine okC_region ?_
                      refine okL_step 9 (tB false) rfl rfl (does_assign rfl) ?_
                      refine okL_nil ?_
                      refine okX_next ?_
                      obtain ⟨z35, h37, hz36⟩ := bs h
                      refine okC_meet (X := Bool) (fun x => z35 = x) (fun x : Bool => [(1, (pAt g1 0)), (3, (Ty.val (.func (.func 101) #[] #[(.pointer (some ⟨g1, 0, none⟩))]))), (4, (Ty.val (.func (.func 102) #[] #[(.pointer (some ⟨g1, 0, none⟩))]))), (9, (tB x)), (43, (tL 5 Block.ty a0.Blocks)), (44, (tI ((a0.Blocks).length : Int))), (45, (tI s13))]) (fun x : Bool => Item.blk g18 43 [(tL 6 VInstr.ty y16.Instrs), (tI y16.End), (tI y16.Reg), (tI y16.Target), (tI y16.Else)] :: Item.blk g1 27 [(tI a0.Params), (tI a0.Regs), (tL 5 Block.ty a0.Blocks)] :: L) ?_ ?_
                      · refine okC_seq ?_
                        refine okC_region ?_
                        refine okL_step 61 (pAt g18 1) rfl rfl (does_fieldAddrP 1 Tryd.underlying43 rfl Tryd.sizeOf3 rfl rfl) ?_
                        refine okL_step 62 (tI y16.End) rfl rfl (does_loadB1 Tryd.isAgg3 rfl 0 rfl rfl) ?_
                        refine okL_nil ?_
                        refine okX_next ?_
                        refine okC_block ?_
                        refine okC_seq ?_
                        refine okC_region ?_
                        refine okL_step 64 (tB (y16.End == 1)) rfl rfl (does_eql rfl rfl) ?_
                        refine okL_step 63 (tB (y16.End == 1)) rfl rfl (does_assign rfl) ?_
                        refine okL_nil ?_
                        refine okX_next ?_
                        refine okC_cond (b := (y16.End == 1)) rfl (fun hb38 => ?_) (fun hb38 => ?_)
                        · replace h37 := ct hb38 h37
                          refine okC_region ?_
                          refine okL_step 65 (Ty.val (.func (.func 101) #[] #[(.pointer (some ⟨g1, 0, none⟩))])) rfl rfl (does_move rfl) ?_
                          refine okL_step 66 (pAt g18 3) rfl rfl (does_fieldAddrP 3 Tryd.underlying43 rfl Tryd.sizeOf3 rfl rfl) ?_
                          refine okL_step 67 (tI y16.Target) rfl rfl (does_loadB1 Tryd.isAgg3 rfl 0 rfl rfl) ?_
                          obtain ⟨r39, hc40, h37⟩ := bs h37
                          refine okL_step 68 (tB r39) rfl rfl (does_callC (As := [(tI y16.Target)]) (Cs := [(pAt g1 0)]) 1 rfl (c_vcode_Valid_1 y16.Target a0 g1 r39 hc40) rfl Tryd.call101 rfl rfl rfl) ?_
                          refine okL_step 69 (tB r39) rfl rfl (does_move rfl) ?_
                          refine okL_meet (X := Bool) 4 (fun x => x = (r39 && (y16.Reg == 0))) (fun x : Bool => [(1, (pAt g1 0)), (3, (Ty.val (.func (.func 101) #[] #[(.pointer (some ⟨g1, 0, none⟩))]))), (4, (Ty.val (.func (.func 102) #[] #[(.pointer (some ⟨g1, 0, none⟩))]))), (6, (pAt g18 0)), (9, (tB false)), (43, (tL 5 Block.ty a0.Blocks)), (44, (tI ((a0.Blocks).length : Int))), (45, (tI s13)), (73, (tB x))]) (fun x : Bool => Item.blk g18 43 [(tL 6 VInstr.ty y16.Instrs), (tI y16.End), (tI y16.Reg), (tI y16.Target), (tI y16.Else)] :: Item.blk g1 27 [(tI a0.Params), (tI a0.Regs), (tL 5 Block.ty a0.Blocks)] :: L) _ rfl ?_ ?_
                          · refine okL_split r39 (fun hb41 => ?_) (fun hb41 => ?_)
                            · refine okL_guard 70 (pAt g18 2) 69 r39 rfl rfl hb41 rfl rfl (does_fieldAddrP 2 Tryd.underlying43 rfl Tryd.sizeOf3 rfl rfl) ?_
                              refine okL_guard 71 (tI y16.Reg) 69 r39 rfl rfl hb41 rfl rfl (does_loadB1 Tryd.isAgg3 rfl 0 rfl rfl) ?_
                              refine okL_guard 72 (tB (y16.Reg == 0)) 69 r39 rfl rfl hb41 rfl rfl (does_eql rfl rfl) ?_
                              refine okL_step 73 (tB (y16.Reg == 0)) rfl rfl (does_pick_t r39 rfl hb41 rfl) ?_
                              refine okL_nil ?_
                              exact okX_meet (I := _) (y16.Reg == 0) (and_t hb41) (cc rfl (cc rfl (cc rfl (cc rfl (cc rfl (cc rfl (cc rfl (cc rfl (cc rfl cn))))))))) rfl
                            · refine okL_skip 70 69 r39 rfl rfl hb41 rfl rfl ?_
                              refine okL_skip 71 69 r39 rfl rfl hb41 rfl rfl ?_
                              refine okL_skip 72 69 r39 rfl rfl hb41 rfl rfl ?_
                              refine okL_step 73 (tB false) rfl rfl (does_pick_f r39 rfl hb41 rfl) ?_
                              refine okL_nil ?_
                              exact okX_meet (I := _) false (and_f hb41) (cc rfl (cc rfl (cc rfl (cc rfl (cc rfl (cc rfl (cc rfl (cc rfl (cc rfl cn))))))))) rfl
                          · intro x44 hx
                            subst hx
                            change OkL _ _ _ _ [(1, (pAt g1 0)), (3, (Ty.val (.func (.func 101) #[] #[(.pointer (some ⟨g1, 0, none⟩))]))), (4, (Ty.val (.func (.func 102) #[] #[(.pointer (some ⟨g1, 0, none⟩))]))), (6, (pAt g18 0)), (9, (tB false)), (43, (tL 5 Block.ty a0.Blocks)), (44, (tI ((a0.Blocks).length : Int))), (45, (tI s13)), (73, (tB (r39 && (y16.Reg == 0))))] (Item.blk g18 43 [(tL 6 VInstr.ty y16.Instrs), (tI y16.End), (tI y16.Reg), (tI y16.Target), (tI y16.Else)] :: Item.blk g1 27 [(tI a0.Params), (tI a0.Regs), (tL 5 Block.ty a0.Blocks)] :: L)
                            refine okL_step 74 (tB (r39 && (y16.Reg == 0))) rfl rfl (does_move rfl) ?_
                            refine okL_meet (X := Bool) 4 (fun x => x = ((r39 && (y16.Reg == 0)) && (y16.Else == 0))) (fun x : Bool => [(1, (pAt g1 0)), (3, (Ty.val (.func (.func 101) #[] #[(.pointer (some ⟨g1, 0, none⟩))]))), (4, (Ty.val (.func (.func 102) #[] #[(.pointer (some ⟨g1, 0, none⟩))]))), (9, (tB false)), (43, (tL 5 Block.ty a0.Blocks)), (44, (tI ((a0.Blocks).length : Int))), (45, (tI s13)), (78, (tB x))]) (fun x : Bool => Item.blk g18 43 [(tL 6 VInstr.ty y16.Instrs), (tI y16.End), (tI y16.Reg), (tI y16.Target), (tI y16.Else)] :: Item.blk g1 27 [(tI a0.Params), (tI a0.Regs), (tL 5 Block.ty a0.Blocks)] :: L) _ rfl ?_ ?_
                            · refine okL_split (r39 && (y16.Reg == 0)) (fun hb42 => ?_) (fun hb42 => ?_)
                              · refine okL_guard 75 (pAt g18 4) 74 (r39 && (y16.Reg == 0)) rfl rfl hb42 rfl rfl (does_fieldAddrP 4 Tryd.underlying43 rfl Tryd.sizeOf3 rfl rfl) ?_
                                refine okL_guard 76 (tI y16.Else) 74 (r39 && (y16.Reg == 0)) rfl rfl hb42 rfl rfl (does_loadB1 Tryd.isAgg3 rfl 0 rfl rfl) ?_
                                refine okL_guard 77 (tB (y16.Else == 0)) 74 (r39 && (y16.Reg == 0)) rfl rfl hb42 rfl rfl (does_eql rfl rfl) ?_
                                refine okL_step 78 (tB (y16.Else == 0)) rfl rfl (does_pick_t (r39 && (y16.Reg == 0)) rfl hb42 rfl) ?_
                                refine okL_nil ?_
                                exact okX_meet (I := _) (y16.Else == 0) (and_t hb42) (cc rfl (cc rfl (cc rfl (cc rfl (cc rfl (cc rfl (cc rfl (cc rfl cn)))))))) rfl
                              · refine okL_skip 75 74 (r39 && (y16.Reg == 0)) rfl rfl hb42 rfl rfl ?_
                                refine okL_skip 76 74 (r39 && (y16.Reg == 0)) rfl rfl hb42 rfl rfl ?_
                                refine okL_skip 77 74 (r39 && (y16.Reg == 0)) rfl rfl hb42 rfl rfl ?_
                                refine okL_step 78 (tB false) rfl rfl (does_pick_f (r39 && (y16.Reg == 0)) rfl hb42 rfl) ?_
                                refine okL_nil ?_
                                exact okX_meet (I := _) false (and_f hb42) (cc rfl (cc rfl (cc rfl (cc rfl (cc rfl (cc rfl (cc rfl (cc rfl cn)))))))) rfl
                            · intro x43 hx
                              subst hx
                              change OkL _ _ _ _ [(1, (pAt g1 0)), (3, (Ty.val (.func (.func 101) #[] #[(.pointer (some ⟨g1, 0, none⟩))]))), (4, (Ty.val (.func (.func 102) #[] #[(.pointer (some ⟨g1, 0, none⟩))]))), (9, (tB false)), (43, (tL 5 Block.ty a0.Blocks)), (44, (tI ((a0.Blocks).length : Int))), (45, (tI s13)), (78, (tB ((r39 && (y16.Reg == 0)) && (y16.Else == 0))))] (Item.blk g18 43 [(tL 6 VInstr.ty y16.Instrs), (tI y16.End), (tI y16.Reg), (tI y16.Target), (tI y16.Else)] :: Item.blk g1 27 [(tI a0.Params), (tI a0.Regs), (tL 5 Block.ty a0.Blocks)] :: L)
                              refine okL_step 9 (tB ((r39 && (y16.Reg == 0)) && (y16.Else == 0))) rfl rfl (does_assign rfl) ?_
                              refine okL_nil ?_
                              refine okX_block_normal ?_
                              exact okX_meet (I := _) ((r39 && (y16.Reg == 0)) && (y16.Else == 0)) (smh h37) (cc rfl (cc rfl (cc rfl (cc rfl (cc rfl (cc rfl (cc rfl cn))))))) rfl
                        · replace h37 := cf hb38 h37
                          refine okC_seq ?_
                          refine okC_region ?_
                          refine okL_step 80 (tB (y16.End == 2)) rfl rfl (does_eql rfl rfl) ?_
                          refine okL_step 79 (tB (y16.End == 2)) rfl rfl (does_assign rfl) ?_
                          refine okL_nil ?_
                          refine okX_next ?_
                          refine okC_cond (b := (y16.End == 2)) rfl (fun hb45 => ?_) (fun hb45 => ?_)
                          · replace h37 := ct hb45 h37
                            refine okC_region ?_
                            refine okL_step 81 (Ty.val (.func (.func 101) #[] #[(.pointer (some ⟨g1, 0, none⟩))])) rfl rfl (does_move rfl) ?_
                            refine okL_step 82 (pAt g18 3) rfl rfl (does_fieldAddrP 3 Tryd.underlying43 rfl Tryd.sizeOf3 rfl rfl) ?_
                            refine okL_step 83 (tI y16.Target) rfl rfl (does_loadB1 Tryd.isAgg3 rfl 0 rfl rfl) ?_
                            obtain ⟨r46, hc47, h37⟩ := bs h37
                            refine okL_step 84 (tB r46) rfl rfl (does_callC (As := [(tI y16.Target)]) (Cs := [(pAt g1 0)]) 1 rfl (c_vcode_Valid_1 y16.Target a0 g1 r46 hc47) rfl Tryd.call101 rfl rfl rfl) ?_
                            refine okL_step 85 (tB r46) rfl rfl (does_move rfl) ?_
                            obtain ⟨z49, h51, hz50⟩ := bs h37
                            refine okL_meet (X := Bool) 5 (fun x => z49 = x) (fun x : Bool => [(1, (pAt g1 0)), (3, (Ty.val (.func (.func 101) #[] #[(.pointer (some ⟨g1, 0, none⟩))]))), (4, (Ty.val (.func (.func 102) #[] #[(.pointer (some ⟨g1, 0, none⟩))]))), (6, (pAt g18 0)), (9, (tB false)), (43, (tL 5 Block.ty a0.Blocks)), (44, (tI ((a0.Blocks).length : Int))), (45, (tI s13)), (90, (tB x))]) (fun x : Bool => Item.blk g18 43 [(tL 6 VInstr.ty y16.Instrs), (tI y16.End), (tI y16.Reg), (tI y16.Target), (tI y16.Else)] :: Item.blk g1 27 [(tI a0.Params), (tI a0.Regs), (tL 5 Block.ty a0.Blocks)] :: L) _ rfl ?_ ?_
                            · refine okL_split r46 (fun hb48 => ?_) (fun hb48 => ?_)
                              · replace h51 := ct hb48 h51
                                refine okL_guard 86 (Ty.val (.func (.func 101) #[] #[(.pointer (some ⟨g1, 0, none⟩))])) 85 r46 rfl rfl hb48 rfl rfl (does_move rfl) ?_
                                refine okL_guard 87 (pAt g18 4) 85 r46 rfl rfl hb48 rfl rfl (does_fieldAddrP 4 Tryd.underlying43 rfl Tryd.sizeOf3 rfl rfl) ?_
                                refine okL_guard 88 (tI y16.Else) 85 r46 rfl rfl hb48 rfl rfl (does_loadB1 Tryd.isAgg3 rfl 0 rfl rfl) ?_
                                obtain ⟨r53, hc54, h51⟩ := bs h51
                                refine okL_guard 89 (tB r53) 85 r46 rfl rfl hb48 rfl rfl (does_callC (As := [(tI y16.Else)]) (Cs := [(pAt g1 0)]) 1 rfl (c_vcode_Valid_1 y16.Else a0 g1 r53 hc54) rfl Tryd.call101 rfl rfl rfl) ?_
                                refine okL_step 90 (tB r53) rfl rfl (does_pick_t r46 rfl hb48 rfl) ?_
                                refine okL_nil ?_
                                exact okX_meet (I := _) r53 (smh h51) (cc rfl (cc rfl (cc rfl (cc rfl (cc rfl (cc rfl (cc rfl (cc rfl (cc rfl cn))))))))) rfl
                              · replace h51 := cf hb48 h51
                                refine okL_skip 86 85 r46 rfl rfl hb48 rfl rfl ?_
                                refine okL_skip 87 85 r46 rfl rfl hb48 rfl rfl ?_
                                refine okL_skip 88 85 r46 rfl rfl hb48 rfl rfl ?_
                                refine okL_skip 89 85 r46 rfl rfl hb48 rfl rfl ?_
                                refine okL_step 90 (tB false) rfl rfl (does_pick_f r46 rfl hb48 rfl) ?_
                                refine okL_nil ?_
                                exact okX_meet (I := _) false (smh h51) (cc rfl (cc rfl (cc rfl (cc rfl (cc rfl (cc rfl (cc rfl (cc rfl (cc rfl cn))))))))) rfl
                            · intro x52 hx
                              obtain rfl : x52 = z49 := hx.symm
                              replace h37 := hz50
                              change OkL _ _ _ _ [(1, (pAt g1 0)), (3, (Ty.val (.func (.func 101) #[] #[(.pointer (some ⟨g1, 0, none⟩))]))), (4, (Ty.val (.func (.func 102) #[] #[(.pointer (some ⟨g1, 0, none⟩))]))), (6, (pAt g18 0)), (9, (tB false)), (43, (tL 5 Block.ty a0.Blocks)), (44, (tI ((a0.Blocks).length : Int))), (45, (tI s13)), (90, (tB x52))] (Item.blk g18 43 [(tL 6 VInstr.ty y16.Instrs), (tI y16.End), (tI y16.Reg), (tI y16.Target), (tI y16.Else)] :: Item.blk g1 27 [(tI a0.Params), (tI a0.Regs), (tL 5 Block.ty a0.Blocks)] :: L)
                              refine okL_step 91 (tB x52) rfl rfl (does_move rfl) ?_
                              obtain ⟨z56, h58, hz57⟩ := bs h37
                              refine okL_meet (X := Bool) 5 (fun x => z56 = x) (fun x : Bool => [(1, (pAt g1 0)), (3, (Ty.val (.func (.func 101) #[] #[(.pointer (some ⟨g1, 0, none⟩))]))), (4, (Ty.val (.func (.func 102) #[] #[(.pointer (some ⟨g1, 0, none⟩))]))), (9, (tB false)), (43, (tL 5 Block.ty a0.Blocks)), (44, (tI ((a0.Blocks).length : Int))), (45, (tI s13)), (96, (tB x))]) (fun x : Bool => Item.blk g18 43 [(tL 6 VInstr.ty y16.Instrs), (tI y16.End), (tI y16.Reg), (tI y16.Target), (tI y16.Else)] :: Item.blk g1 27 [(tI a0.Params), (tI a0.Regs), (tL 5 Block.ty a0.Blocks)] :: L) _ rfl ?_ ?_
                              · refine okL_split x52 (fun hb55 => ?_) (fun hb55 => ?_)
                                · replace h58 := ct hb55 h58
                                  refine okL_guard 92 (Ty.val (.func (.func 102) #[] #[(.pointer (some ⟨g1, 0, none⟩))])) 91 x52 rfl rfl hb55 rfl rfl (does_move rfl) ?_
                                  refine okL_guard 93 (pAt g18 2) 91 x52 rfl rfl hb55 rfl rfl (does_fieldAddrP 2 Tryd.underlying43 rfl Tryd.sizeOf3 rfl rfl) ?_
                                  refine okL_guard 94 (tI y16.Reg) 91 x52 rfl rfl hb55 rfl rfl (does_loadB1 Tryd.isAgg3 rfl 0 rfl rfl) ?_
                                  obtain ⟨r60, hc61, h58⟩ := bs h58
                                  refine okL_guard 95 (tB r60) 91 x52 rfl rfl hb55 rfl rfl (does_callC (As := [(tI y16.Reg)]) (Cs := [(pAt g1 0)]) 1 rfl (c_vcode_Valid_2 y16.Reg a0 g1 r60 hc61) rfl Tryd.call102 rfl rfl rfl) ?_
                                  refine okL_step 96 (tB r60) rfl rfl (does_pick_t x52 rfl hb55 rfl) ?_
                                  refine okL_nil ?_
                                  exact okX_meet (I := _) r60 (smh h58) (cc rfl (cc rfl (cc rfl (cc rfl (cc rfl (cc rfl (cc rfl (cc rfl cn)))))))) rfl
                                · replace h58 := cf hb55 h58
                                  refine okL_skip 92 91 x52 rfl rfl hb55 rfl rfl ?_
                                  refine okL_skip 93 91 x52 rfl rfl hb55 rfl rfl ?_
                                  refine okL_skip 94 91 x52 rfl rfl hb55 rfl rfl ?_
                                  refine okL_skip 95 91 x52 rfl rfl hb55 rfl rfl ?_
                                  refine okL_step 96 (tB false) rfl rfl (does_pick_f x52 rfl hb55 rfl) ?_
                                  refine okL_nil ?_
                                  exact okX_meet (I := _) false (smh h58) (cc rfl (cc rfl (cc rfl (cc rfl (cc rfl (cc rfl (cc rfl (cc rfl cn)))))))) rfl
                              · intro x59 hx
                                obtain rfl : x59 = z56 := hx.symm
                                replace h37 := hz57
                                change OkL _ _ _ _ [(1, (pAt g1 0)), (3, (Ty.val (.func (.func 101) #[] #[(.pointer (some ⟨g1, 0, none⟩))]))), (4, (Ty.val (.func (.func 102) #[] #[(.pointer (some ⟨g1, 0, none⟩))]))), (9, (tB false)), (43, (tL 5 Block.ty a0.Blocks)), (44, (tI ((a0.Blocks).length : Int))), (45, (tI s13)), (96, (tB x59))] (Item.blk g18 43 [(tL 6 VInstr.ty y16.Instrs), (tI y16.End), (tI y16.Reg), (tI y16.Target), (tI y16.Else)] :: Item.blk g1 27 [(tI a0.Params), (tI a0.Regs), (tL 5 Block.ty a0.Blocks)] :: L)
                                refine okL_step 9 (tB x59) rfl rfl (does_assign rfl) ?_
                                refine okL_nil ?_
                                refine okX_block_normal ?_
                                exact okX_meet (I := _) x59 (smh h37) (cc rfl (cc rfl (cc rfl (cc rfl (cc rfl (cc rfl (cc rfl cn))))))) rfl
                          · replace h37 := cf hb45 h37
                            refine okC_seq ?_
                            refine okC_region ?_
                            refine okL_step 98 (tB (y16.End == 3)) rfl rfl (does_eql rfl rfl) ?_
                            refine okL_step 97 (tB (y16.End == 3)) rfl rfl (does_assign rfl) ?_
                            refine okL_nil ?_
                            refine okX_next ?_
                            refine okC_cond (b := (y16.End == 3)) rfl (fun hb62 => ?_) (fun hb62 => ?_)
                            · replace h37 := ct hb62 h37
                              refine okC_region ?_
                              refine okL_step 99 (Ty.val (.func (.func 102) #[] #[(.pointer (some ⟨g1, 0, none⟩))])) rfl rfl (does_move rfl) ?_
                              refine okL_step 100 (pAt g18 2) rfl rfl (does_fieldAddrP 2 Tryd.underlying43 rfl Tryd.sizeOf3 rfl rfl) ?_
                              refine okL_step 101 (tI y16.Reg) rfl rfl (does_loadB1 Tryd.isAgg3 rfl 0 rfl rfl) ?_
                              obtain ⟨r63, hc64, h37⟩ := bs h37
                              refine okL_step 102 (tB r63) rfl rfl (does_callC (As := [(tI y16.Reg)]) (Cs := [(pAt g1 0)]) 1 rfl (c_vcode_Valid_2 y16.Reg a0 g1 r63 hc64) rfl Tryd.call102 rfl rfl rfl) ?_
                              refine okL_step 103 (tB r63) rfl rfl (does_move rfl) ?_
                              refine okL_meet (X := Bool) 4 (fun x => x = (r63 && (y16.Target == 0))) (fun x : Bool => [(1, (pAt g1 0)), (3, (Ty.val (.func (.func 101) #[] #[(.pointer (some ⟨g1, 0, none⟩))]))), (4, (Ty.val (.func (.func 102) #[] #[(.pointer (some ⟨g1, 0, none⟩))]))), (6, (pAt g18 0)), (9, (tB false)), (43, (tL 5 Block.ty a0.Blocks)), (44, (tI ((a0.Blocks).length : Int))), (45, (tI s13)), (107, (tB x))]) (fun x : Bool => Item.blk g18 43 [(tL 6 VInstr.ty y16.Instrs), (tI y16.End), (tI y16.Reg), (tI y16.Target), (tI y16.Else)] :: Item.blk g1 27 [(tI a0.Params), (tI a0.Regs), (tL 5 Block.ty a0.Blocks)] :: L) _ rfl ?_ ?_
                              · refine okL_split r63 (fun hb65 => ?_) (fun hb65 => ?_)
                                · refine okL_guard 104 (pAt g18 3) 103 r63 rfl rfl hb65 rfl rfl (does_fieldAddrP 3 Tryd.underlying43 rfl Tryd.sizeOf3 rfl rfl) ?_
                                  refine okL_guard 105 (tI y16.Target) 103 r63 rfl rfl hb65 rfl rfl (does_loadB1 Tryd.isAgg3 rfl 0 rfl rfl) ?_
                                  refine okL_guard 106 (tB (y16.Target == 0)) 103 r63 rfl rfl hb65 rfl rfl (does_eql rfl rfl) ?_
                                  refine okL_step 107 (tB (y16.Target == 0)) rfl rfl (does_pick_t r63 rfl hb65 rfl) ?_
                                  refine okL_nil ?_
                                  exact okX_meet (I := _) (y16.Target == 0) (and_t hb65) (cc rfl (cc rfl (cc rfl (cc rfl (cc rfl (cc rfl (cc rfl (cc rfl (cc rfl cn))))))))) rfl
                                · refine okL_skip 104 103 r63 rfl rfl hb65 rfl rfl ?_
                                  refine okL_skip 105 103 r63 rfl rfl hb65 rfl rfl ?_
                                  refine okL_skip 106 103 r63 rfl rfl hb65 rfl rfl ?_
                                  refine okL_step 107 (tB false) rfl rfl (does_pick_f r63 rfl hb65 rfl) ?_
                                  refine okL_nil ?_
                                  exact okX_meet (I := _) false (and_f hb65) (cc rfl (cc rfl (cc rfl (cc rfl (cc rfl (cc rfl (cc rfl (cc rfl (cc rfl cn))))))))) rfl
                              · intro x68 hx
                                subst hx
                                change OkL _ _ _ _ [(1, (pAt g1 0)), (3, (Ty.val (.func (.func 101) #[] #[(.pointer (some ⟨g1, 0, none⟩))]))), (4, (Ty.val (.func (.func 102) #[] #[(.pointer (some ⟨g1, 0, none⟩))]))), (6, (pAt g18 0)), (9, (tB false)), (43, (tL 5 Block.ty a0.Blocks)), (44, (tI ((a0.Blocks).length : Int))), (45, (tI s13)), (107, (tB (r63 && (y16.Target == 0))))] (Item.blk g18 43 [(tL 6 VInstr.ty y16.Instrs), (tI y16.End), (tI y16.Reg), (tI y16.Target), (tI y16.Else)] :: Item.blk g1 27 [(tI a0.Params), (tI a0.Regs), (tL 5 Block.ty a0.Blocks)] :: L)
                                refine okL_step 108 (tB (r63 && (y16.Target == 0))) rfl rfl (does_move rfl) ?_
                                refine okL_meet (X := Bool) 4 (fun x => x = ((r63 && (y16.Target == 0)) && (y16.Else == 0))) (fun x : Bool => [(1, (pAt g1 0)), (3, (Ty.val (.func (.func 101) #[] #[(.pointer (some ⟨g1, 0, none⟩))]))), (4, (Ty.val (.func (.func 102) #[] #[(.pointer (some ⟨g1, 0, none⟩))]))), (9, (tB false)), (43, (tL 5 Block.ty a0.Blocks)), (44, (tI ((a0.Blocks).length : Int))), (45, (tI s13)), (112, (tB x))]) (fun x : Bool => Item.blk g18 43 [(tL 6 VInstr.ty y16.Instrs), (tI y16.End), (tI y16.Reg), (tI y16.Target), (tI y16.Else)] :: Item.blk g1 27 [(tI a0.Params), (tI a0.Regs), (tL 5 Block.ty a0.Blocks)] :: L) _ rfl ?_ ?_
                                · refine okL_split (r63 && (y16.Target == 0)) (fun hb66 => ?_) (fun hb66 => ?_)
                                  · refine okL_guard 109 (pAt g18 4) 108 (r63 && (y16.Target == 0)) rfl rfl hb66 rfl rfl (does_fieldAddrP 4 Tryd.underlying43 rfl Tryd.sizeOf3 rfl rfl) ?_
                                    refine okL_guard 110 (tI y16.Else) 108 (r63 && (y16.Target == 0)) rfl rfl hb66 rfl rfl (does_loadB1 Tryd.isAgg3 rfl 0 rfl rfl) ?_
                                    refine okL_guard 111 (tB (y16.Else == 0)) 108 (r63 && (y16.Target == 0)) rfl rfl hb66 rfl rfl (does_eql rfl rfl) ?_
                                    refine okL_step 112 (tB (y16.Else == 0)) rfl rfl (does_pick_t (r63 && (y16.Target == 0)) rfl hb66 rfl) ?_
                                    refine okL_nil ?_
                                    exact okX_meet (I := _) (y16.Else == 0) (and_t hb66) (cc rfl (cc rfl (cc rfl (cc rfl (cc rfl (cc rfl (cc rfl (cc rfl cn)))))))) rfl
                                  · refine okL_skip 109 108 (r63 && (y16.Target == 0)) rfl rfl hb66 rfl rfl ?_
                                    refine okL_skip 110 108 (r63 && (y16.Target == 0)) rfl rfl hb66 rfl rfl ?_
                                    refine okL_skip 111 108 (r63 && (y16.Target == 0)) rfl rfl hb66 rfl rfl ?_
                                    refine okL_step 112 (tB false) rfl rfl (does_pick_f (r63 && (y16.Target == 0)) rfl hb66 rfl) ?_
                                    refine okL_nil ?_
                                    exact okX_meet (I := _) false (and_f hb66) (cc rfl (cc rfl (cc rfl (cc rfl (cc rfl (cc rfl (cc rfl (cc rfl cn)))))))) rfl
                                · intro x67 hx
                                  subst hx
                                  change OkL _ _ _ _ [(1, (pAt g1 0)), (3, (Ty.val (.func (.func 101) #[] #[(.pointer (some ⟨g1, 0, none⟩))]))), (4, (Ty.val (.func (.func 102) #[] #[(.pointer (some ⟨g1, 0, none⟩))]))), (9, (tB false)), (43, (tL 5 Block.ty a0.Blocks)), (44, (tI ((a0.Blocks).length : Int))), (45, (tI s13)), (112, (tB ((r63 && (y16.Target == 0)) && (y16.Else == 0))))] (Item.blk g18 43 [(tL 6 VInstr.ty y16.Instrs), (tI y16.End), (tI y16.Reg), (tI y16.Target), (tI y16.Else)] :: Item.blk g1 27 [(tI a0.Params), (tI a0.Regs), (tL 5 Block.ty a0.Blocks)] :: L)
                                  refine okL_step 9 (tB ((r63 && (y16.Target == 0)) && (y16.Else == 0))) rfl rfl (does_assign rfl) ?_
                                  refine okL_nil ?_
                                  refine okX_block_normal ?_
                                  exact okX_meet (I := _) ((r63 && (y16.Target == 0)) && (y16.Else == 0)) (smh h37) (cc rfl (cc rfl (cc rfl (cc rfl (cc rfl (cc rfl (cc rfl cn))))))) rfl
                            · replace h37 := cf hb62 h37
                              refine okC_seq ?_
                              refine okC_region ?_
                              refine okL_step 114 (tB (y16.End == 4)) rfl rfl (does_eql rfl rfl) ?_
                              refine okL_step 113 (tB (y16.End == 4)) rfl rfl (does_assign rfl) ?_
                              refine okL_nil ?_
                              refine okX_next ?_
                              refine okC_cond (b := (y16.End == 4)) rfl (fun hb69 => ?_) (fun hb69 => ?_)
                              · replace h37 := ct hb69 h37
                                refine okC_region ?_
                                refine okL_step 115 (pAt g18 3) rfl rfl (does_fieldAddrP 3 Tryd.underlying43 rfl Tryd.sizeOf3 rfl rfl) ?_
                                refine okL_step 116 (tI y16.Target) rfl rfl (does_loadB1 Tryd.isAgg3 rfl 0 rfl rfl) ?_
                                refine okL_step 117 (tB (decide (y16.Target ≥ 1))) rfl rfl (does_geq rfl rfl) ?_
                                refine okL_step 118 (tB (decide (y16.Target ≥ 1))) rfl rfl (does_move rfl) ?_
                                refine okL_meet (X := Bool) 4 (fun x => x = ((decide (y16.Target ≥ 1)) && (decide (y16.Target < 33554432)))) (fun x : Bool => [(1, (pAt g1 0)), (3, (Ty.val (.func (.func 101) #[] #[(.pointer (some ⟨g1, 0, none⟩))]))), (4, (Ty.val (.func (.func 102) #[] #[(.pointer (some ⟨g1, 0, none⟩))]))), (6, (pAt g18 0)), (9, (tB false)), (43, (tL 5 Block.ty a0.Blocks)), (44, (tI ((a0.Blocks).length : Int))), (45, (tI s13)), (122, (tB x))]) (fun x : Bool => Item.blk g18 43 [(tL 6 VInstr.ty y16.Instrs), (tI y16.End), (tI y16.Reg), (tI y16.Target), (tI y16.Else)] :: Item.blk g1 27 [(tI a0.Params), (tI a0.Regs), (tL 5 Block.ty a0.Blocks)] :: L) _ rfl ?_ ?_
                                · refine okL_split (decide (y16.Target ≥ 1)) (fun hb70 => ?_) (fun hb70 => ?_)
                                  · refine okL_guard 119 (pAt g18 3) 118 (decide (y16.Target ≥ 1)) rfl rfl hb70 rfl rfl (does_fieldAddrP 3 Tryd.underlying43 rfl Tryd.sizeOf3 rfl rfl) ?_
                                    refine okL_guard 120 (tI y16.Target) 118 (decide (y16.Target ≥ 1)) rfl rfl hb70 rfl rfl (does_loadB1 Tryd.isAgg3 rfl 0 rfl rfl) ?_
                                    refine okL_guard 121 (tB (decide (y16.Target < 33554432))) 118 (decide (y16.Target ≥ 1)) rfl rfl hb70 rfl rfl (does_lss rfl rfl) ?_
                                    refine okL_step 122 (tB (decide (y16.Target < 33554432))) rfl rfl (does_pick_t (decide (y16.Target ≥ 1)) rfl hb70 rfl) ?_
                                    refine okL_nil ?_
                                    exact okX_meet (I := _) (decide (y16.Target < 33554432)) (and_t hb70) (cc rfl (cc rfl (cc rfl (cc rfl (cc rfl (cc rfl (cc rfl (cc rfl (cc rfl cn))))))))) rfl
                                  · refine okL_skip 119 118 (decide (y16.Target ≥ 1)) rfl rfl hb70 rfl rfl ?_
                                    refine okL_skip 120 118 (decide (y16.Target ≥ 1)) rfl rfl hb70 rfl rfl ?_
                                    refine okL_skip 121 118 (decide (y16.Target ≥ 1)) rfl rfl hb70 rfl rfl ?_
                                    refine okL_step 122 (tB false) rfl rfl (does_pick_f (decide (y16.Target ≥ 1)) rfl hb70 rfl) ?_
                                    refine okL_nil ?_
                                    exact okX_meet (I := _) false (and_f hb70) (cc rfl (cc rfl (cc rfl (cc rfl (cc rfl (cc rfl (cc rfl (cc rfl (cc rfl cn))))))))) rfl
                                · intro x75 hx
                                  subst hx
                                  change OkL _ _ _ _ [(1, (pAt g1 0)), (3, (Ty.val (.func (.func 101) #[] #[(.pointer (some ⟨g1, 0, none⟩))]))), (4, (Ty.val (.func (.func 102) #[] #[(.pointer (some ⟨g1, 0, none⟩))]))), (6, (pAt g18 0)), (9, (tB false)), (43, (tL 5 Block.ty a0.Blocks)), (44, (tI ((a0.Blocks).length : Int))), (45, (tI s13)), (122, (tB ((decide (y16.Target ≥ 1)) && (decide (y16.Target < 33554432)))))] (Item.blk g18 43 [(tL 6 VInstr.ty y16.Instrs), (tI y16.End), (tI y16.Reg), (tI y16.Target), (tI y16.Else)] :: Item.blk g1 27 [(tI a0.Params), (tI a0.Regs), (tL 5 Block.ty a0.Blocks)] :: L)
                                  refine okL_step 123 (tB ((decide (y16.Target ≥ 1)) && (decide (y16.Target < 33554432)))) rfl rfl (does_move rfl) ?_
                                  refine okL_meet (X := Bool) 4 (fun x => x = (((decide (y16.Target ≥ 1)) && (decide (y16.Target < 33554432))) && (y16.Reg == 0))) (fun x : Bool => [(1, (pAt g1 0)), (3, (Ty.val (.func (.func 101) #[] #[(.pointer (some ⟨g1, 0, none⟩))]))), (4, (Ty.val (.func (.func 102) #[] #[(.pointer (some ⟨g1, 0, none⟩))]))), (6, (pAt g18 0)), (9, (tB false)), (43, (tL 5 Block.ty a0.Blocks)), (44, (tI ((a0.Blocks).length : Int))), (45, (tI s13)), (127, (tB x))]) (fun x : Bool => Item.blk g18 43 [(tL 6 VInstr.ty y16.Instrs), (tI y16.End), (tI y16.Reg), (tI y16.Target), (tI y16.Else)] :: Item.blk g1 27 [(tI a0.Params), (tI a0.Regs), (tL 5 Block.ty a0.Blocks)] :: L) _ rfl ?_ ?_
                                  · refine okL_split ((decide (y16.Target ≥ 1)) && (decide (y16.Target < 33554432))) (fun hb71 => ?_) (fun hb71 => ?_)
                                    · refine okL_guard 124 (pAt g18 2) 123 ((decide (y16.Target ≥ 1)) && (decide (y16.Target < 33554432))) rfl rfl hb71 rfl rfl (does_fieldAddrP 2 Tryd.underlying43 rfl Tryd.sizeOf3 rfl rfl) ?_
                                      refine okL_guard 125 (tI y16.Reg) 123 ((decide (y16.Target ≥ 1)) && (decide (y16.Target < 33554432))) rfl rfl hb71 rfl rfl (does_loadB1 Tryd.isAgg3 rfl 0 rfl rfl) ?_
                                      refine okL_guard 126 (tB (y16.Reg == 0)) 123 ((decide (y16.Target ≥ 1)) && (decide (y16.Target < 33554432))) rfl rfl hb71 rfl rfl (does_eql rfl rfl) ?_
                                      refine okL_step 127 (tB (y16.Reg == 0)) rfl rfl (does_pick_t ((decide (y16.Target ≥ 1)) && (decide (y16.Target < 33554432))) rfl hb71 rfl) ?_
                                      refine okL_nil ?_
                                      exact okX_meet (I := _) (y16.Reg == 0) (and_t hb71) (cc rfl (cc rfl (cc rfl (cc rfl (cc rfl (cc rfl (cc rfl (cc rfl (cc rfl cn))))))))) rfl
                                    · refine okL_skip 124 123 ((decide (y16.Target ≥ 1)) && (decide (y16.Target < 33554432))) rfl rfl hb71 rfl rfl ?_
                                      refine okL_skip 125 123 ((decide (y16.Target ≥ 1)) && (decide (y16.Target < 33554432))) rfl rfl hb71 rfl rfl ?_
                                      refine okL_skip 126 123 ((decide (y16.Target ≥ 1)) && (decide (y16.Target < 33554432))) rfl rfl hb71 rfl rfl ?_
                                      refine okL_step 127 (tB false) rfl rfl (does_pick_f ((decide (y16.Target ≥ 1)) && (decide (y16.Target < 33554432))) rfl hb71 rfl) ?_
                                      refine okL_nil ?_
                                      exact okX_meet (I := _) false (and_f hb71) (cc rfl (cc rfl (cc rfl (cc rfl (cc rfl (cc rfl (cc rfl (cc rfl (cc rfl cn))))))))) rfl
                                  · intro x74 hx
                                    subst hx
                                    change OkL _ _ _ _ [(1, (pAt g1 0)), (3, (Ty.val (.func (.func 101) #[] #[(.pointer (some ⟨g1, 0, none⟩))]))), (4, (Ty.val (.func (.func 102) #[] #[(.pointer (some ⟨g1, 0, none⟩))]))), (6, (pAt g18 0)), (9, (tB false)), (43, (tL 5 Block.ty a0.Blocks)), (44, (tI ((a0.Blocks).length : Int))), (45, (tI s13)), (127, (tB (((decide (y16.Target ≥ 1)) && (decide (y16.Target < 33554432))) && (y16.Reg == 0))))] (Item.blk g18 43 [(tL 6 VInstr.ty y16.Instrs), (tI y16.End), (tI y16.Reg), (tI y16.Target), (tI y16.Else)] :: Item.blk g1 27 [(tI a0.Params), (tI a0.Regs), (tL 5 Block.ty a0.Blocks)] :: L)
                                    refine okL_step 128 (tB (((decide (y16.Target ≥ 1)) && (decide (y16.Target < 33554432))) && (y16.Reg == 0))) rfl rfl (does_move rfl) ?_
                                    refine okL_meet (X := Bool) 4 (fun x => x = ((((decide (y16.Target ≥ 1)) && (decide (y16.Target < 33554432))) && (y16.Reg == 0)) && (y16.Else == 0))) (fun x : Bool => [(1, (pAt g1 0)), (3, (Ty.val (.func (.func 101) #[] #[(.pointer (some ⟨g1, 0, none⟩))]))), (4, (Ty.val (.func (.func 102) #[] #[(.pointer (some ⟨g1, 0, none⟩))]))), (9, (tB false)), (43, (tL 5 Block.ty a0.Blocks)), (44, (tI ((a0.Blocks).length : Int))), (45, (tI s13)), (132, (tB x))]) (fun x : Bool => Item.blk g18 43 [(tL 6 VInstr.ty y16.Instrs), (tI y16.End), (tI y16.Reg), (tI y16.Target), (tI y16.Else)] :: Item.blk g1 27 [(tI a0.Params), (tI a0.Regs), (tL 5 Block.ty a0.Blocks)] :: L) _ rfl ?_ ?_
                                    · refine okL_split (((decide (y16.Target ≥ 1)) && (decide (y16.Target < 33554432))) && (y16.Reg == 0)) (fun hb72 => ?_) (fun hb72 => ?_)
                                      · refine okL_guard 129 (pAt g18 4) 128 (((decide (y16.Target ≥ 1)) && (decide (y16.Target < 33554432))) && (y16.Reg == 0)) rfl rfl hb72 rfl rfl (does_fieldAddrP 4 Tryd.underlying43 rfl Tryd.sizeOf3 rfl rfl) ?_
                                        refine okL_guard 130 (tI y16.Else) 128 (((decide (y16.Target ≥ 1)) && (decide (y16.Target < 33554432))) && (y16.Reg == 0)) rfl rfl hb72 rfl rfl (does_loadB1 Tryd.isAgg3 rfl 0 rfl rfl) ?_
                                        refine okL_guard 131 (tB (y16.Else == 0)) 128 (((decide (y16.Target ≥ 1)) && (decide (y16.Target < 33554432))) && (y16.Reg == 0)) rfl rfl hb72 rfl rfl (does_eql rfl rfl) ?_
                                        refine okL_step 132 (tB (y16.Else == 0)) rfl rfl (does_pick_t (((decide (y16.Target ≥ 1)) && (decide (y16.Target < 33554432))) && (y16.Reg == 0)) rfl hb72 rfl) ?_
                                        refine okL_nil ?_
                                        exact okX_meet (I := _) (y16.Else == 0) (and_t hb72) (cc rfl (cc rfl (cc rfl (cc rfl (cc rfl (cc rfl (cc rfl (cc rfl cn)))))))) rfl
                                      · refine okL_skip 129 128 (((decide (y16.Target ≥ 1)) && (decide (y16.Target < 33554432))) && (y16.Reg == 0)) rfl rfl hb72 rfl rfl ?_
                                        refine okL_skip 130 128 (((decide (y16.Target ≥ 1)) && (decide (y16.Target < 33554432))) && (y16.Reg == 0)) rfl rfl hb72 rfl rfl ?_
                                        refine okL_skip 131 128 (((decide (y16.Target ≥ 1)) && (decide (y16.Target < 33554432))) && (y16.Reg == 0)) rfl rfl hb72 rfl rfl ?_
                                        refine okL_step 132 (tB false) rfl rfl (does_pick_f (((decide (y16.Target ≥ 1)) && (decide (y16.Target < 33554432))) && (y16.Reg == 0)) rfl hb72 rfl) ?_
                                        refine okL_nil ?_
                                        exact okX_meet (I := _) false (and_f hb72) (cc rfl (cc rfl (cc rfl (cc rfl (cc rfl (cc rfl (cc rfl (cc rfl cn)))))))) rfl
                                    · intro x73 hx
                                      subst hx
                                      change OkL _ _ _ _ [(1, (pAt g1 0)), (3, (Ty.val (.func (.func 101) #[] #[(.pointer (some ⟨g1, 0, none⟩))]))), (4, (Ty.val (.func (.func 102) #[] #[(.pointer (some ⟨g1, 0, none⟩))]))), (9, (tB false)), (43, (tL 5 Block.ty a0.Blocks)), (44, (tI ((a0.Blocks).length : Int))), (45, (tI s13)), (132, (tB ((((decide (y16.Target ≥ 1)) && (decide (y16.Target < 33554432))) && (y16.Reg == 0)) && (y16.Else == 0))))] (Item.blk g18 43 [(tL 6 VInstr.ty y16.Instrs), (tI y16.End), (tI y16.Reg), (tI y16.Target), (tI y16.Else)] :: Item.blk g1 27 [(tI a0.Params), (tI a0.Regs), (tL 5 Block.ty a0.Blocks)] :: L)
                                      refine okL_step 9 (tB ((((decide (y16.Target ≥ 1)) && (decide (y16.Target < 33554432))) && (y16.Reg == 0)) && (y16.Else == 0))) rfl rfl (does_assign rfl) ?_
                                      refine okL_nil ?_
                                      refine okX_block_normal ?_
                                      exact okX_meet (I := _) ((((decide (y16.Target ≥ 1)) && (decide (y16.Target < 33554432))) && (y16.Reg == 0)) && (y16.Else == 0)) (smh h37) (cc rfl (cc rfl (cc rfl (cc rfl (cc rfl (cc rfl (cc rfl cn))))))) rfl
                              · replace h37 := cf hb69 h37
                                refine okC_skip ?_
                                refine okX_block_normal ?_
                                exact okX_meet (I := _) false (smh h37) (cc rfl (cc rfl (cc rfl (cc rfl (cc rfl (cc rfl (cc rfl cn))))))) rfl
                      · intro s33 hx
                        change OkC _ _ _ [(1, (pAt g1 0)), (3, (Ty.val (.func (.func 101) #[] #[(.pointer (some ⟨g1, 0, none⟩))]))), (4, (Ty.val (.func (.func 102) #[] #[(.pointer (some ⟨g1, 0, none⟩))]))), (9, (tB s33)), (43, (tL 5 Block.ty a0.Blocks)), (44, (tI ((a0.Blocks).length : Int))), (45, (tI s13))] (Item.blk g18 43 [(tL 6 VInstr.ty y16.Instrs), (tI y16.End), (tI y16.Reg), (tI y16.Target), (tI y16.Else)] :: Item.blk g1 27 [(tI a0.Params), (tI a0.Regs), (tL 5 Block.ty a0.Blocks)] :: L)
                        obtain rfl : s33 = z35 := hx.symm
                        replace h := hz36
                        refine okC_seq ?_
                        refine okC_region ?_
                        refine okL_step 133 (tB s33) rfl rfl (does_move rfl) ?_
                        refine okL_step 134 (tB (!s33)) rfl rfl (does_not rfl) ?_
                        refine okL_nil ?_
                        refine okX_next ?_
                        refine okC_cond (b := (!s33)) rfl (fun hb76 => ?_) (fun hb76 => ?_)
                        · replace h := ct hb76 h
                          refine okC_seq ?_
                          refine okC_region ?_
                          refine okL_step 2 (tB false) rfl rfl (does_assign rfl) ?_
                          refine okL_nil ?_
                          refine okX_next ?_
                          refine okC_ret ?_
                          refine okX_block_ret ?_
                          refine okX_then_ret ?_
                          refine okX_again_ret ?_
                          refine okX_block_ret ?_
                          refine okX_meet_ret ?_
                          replace h := outh h hz11
                          refine okX_then_ret ?_
                          obtain rfl := (smh h).symm
                          refine okX_items [Item.blk g18 43 [(tL 6 VInstr.ty y16.Instrs), (tI y16.End), (tI y16.Reg), (tI y16.Target), (tI y16.Else)], Item.blk g1 27 [(tI a0.Params), (tI a0.Regs), (tL 5 Block.ty a0.Blocks)]] (L) (pm 0 rfl (pm 0 rfl (pr _))) ?_
                          exact okX_ret1 () Tryd.results63 rfl rfl
                        · replace h := cf hb76 h
                          refine okC_skip ?_
                          refine okX_block_normal ?_
                          refine okX_next ?_
                          refine okC_region ?_
                          refine okL_step 135 (tI (w64 (s13 + 1))) rfl rfl (does_add rfl rfl) ?_
                          refine okL_step 45 (tI (w64 (s13 + 1))) rfl rfl (does_move rfl) ?_
                          refine okL_nil ?_
                          refine okX_items [Item.blk g18 43 [(tL 6 VInstr.ty y16.Instrs), (tI y16.End), (tI y16.Reg), (tI y16.Target), (tI y16.Else)]] (Item.blk g1 27 [(tI a0.Params), (tI a0.Regs), (tL 5 Block.ty a0.Blocks)] :: L) (pm 0 rfl (pm 0 rfl (pr _))) ?_
                          exact okX_again k (Nat.lt_succ_self k) (w64 (s13 + 1)) h (cc rfl (cc rfl (cc rfl (cc rfl (cc rfl (cc rfl cn)))))) rfl
                  · replace h := cf hb15 h
                    refine okC_exit ?_
                    refine okX_then_exit ?_
                    refine okX_again_exit ?_
                    refine okX_block_hit ?_
                    exact okX_meet (I := _) () (innh h) cn rfl
              · intro s8 hx
                change OkX _ _ _ [] (Item.blk g1 27 [(tI a0.Params), (tI a0.Regs), (tL 5 Block.ty a0.Blocks)] :: L)
                have hx : z10 = .inl s8 := hx
                subst hx
                replace h := hz11
                refine okX_next ?_
                refine okC_seq ?_
                refine okC_region ?_
                refine okL_step 2 (tB true) rfl rfl (does_assign rfl) ?_
                refine okL_nil ?_
                refine okX_next ?_
                refine okC_ret ?_
                obtain rfl := (smh h).symm
                refine okX_items [Item.blk g1 27 [(tI a0.Params), (tI a0.Regs), (tL 5 Block.ty a0.Blocks)]] (L) (pm 0 rfl (pr _)) ?_
                exact okX_ret1 () Tryd.results63 rfl rfl

def ref29_Info  (a0 : Int) : Option (OpInfo × Bool) :=
  (Option.bind (ref29_form a0) (fun r2 => (cnd (r2 == 0) (some ((⟨⟨#[]⟩, 0, false, false, false, false, 0⟩ : OpInfo), false)) (Option.bind (ref29_names) (fun r5 => (Option.bind (idx r5 a0) (fun y7 => (Option.bind (cnd (a0 == 14) (some 3) (some 1)) (fun s10 => (Option.bind (cnd (((a0 == 11) || (a0 == 12)) || ((a0 == 15) || (a0 == 16))) (some true) (Option.bind (ref29_IsBinary a0) (fun r24 => (some r24)))) (fun x23 => (Option.bind (cnd (((a0 == 11) || (a0 == 12)) || ((a0 == 15) || (a0 == 16))) (some true) (Option.bind (ref29_IsBinary a0) (fun r38 => (some r38)))) (fun x37 => (Option.bind (cnd ((a0 == 11) || (a0 == 12)) (some true) (Option.bind (ref29_IsBinary a0) (fun r51 => (some r51)))) (fun x50 => (some ((⟨y7, r2, ((((((x23 || (a0 == 7)) || (a0 == 8)) || (a0 == 9)) || (a0 == 33)) || (a0 == 35)) || (a0 == 37)), ((((((x37 || (a0 == 10)) || (a0 == 13)) || (a0 == 14)) || (a0 == 33)) || (a0 == 34)) || (a0 == 36)), (((x50 || (a0 == 10)) || (a0 == 34)) || (a0 == 35)), (((((a0 == 4) || (a0 == 20)) || (a0 == 21)) || (a0 == 34)) || (a0 == 35)), s10⟩ : OpInfo), true)))))))))))))))))

theorem c_ref29_Info  (a0 : Int) (r : OpInfo × Bool) (h : ref29_Info  a0 = some r) : CallP Tryd.prog glob 99 [(tI a0)] (Ty.tup [(Ty.agg [(tS r.1.Name), (tI r.1.Form), (tB r.1.ReadsA), (tB r.1.WritesA), (tB r.1.ReadsB), (tB r.1.MayTrap), (tI r.1.Words)]), (tB r.2)]) := by
  refine call_of_code Tryd.func99 rfl Tryd.ntmps99 rfl (fun L w => ?_)
  change OkC _ _ _ [(0, (tI a0))] (L)
  unfold ref29_Info at h
  refine okC_seq ?_
  refine okC_region ?_
  refine okL_stepO 2 rfl rfl (doesO_alloc [(tS ⟨#[]⟩), (tI 0), (tB false), (tB false), (tB false), (tB false), (tI 0)] Tryd.zeroValue113 (part_of (sub_agg [(.string ⟨#[]⟩), (.int .i64 0), (.bool false), (.bool false), (.bool false), (.bool false), (.int .i64 0)] rfl) (part_agg _)) (fun g1 => ?_))
  refine okL_step 3 (tB false) rfl rfl (does_assign rfl) ?_
  refine okL_nil ?_
  refine okX_next ?_
  refine okC_seq ?_
  refine okC_region ?_
  refine okL_step 8 (tI a0) rfl rfl (does_move rfl) ?_
  obtain ⟨r2, hc3, h⟩ := bs h
  refine okL_step 9 (tI r2) rfl rfl (does_call0 (c_ref29_form a0 r2 hc3) rfl Tryd.call122 rfl) ?_
  refine okL_step 4 (tI r2) rfl rfl (does_assign rfl) ?_
  refine okL_nil ?_
  refine okX_next ?_
  refine okC_seq ?_
  refine okC_seq ?_
  refine okC_region ?_
  refine okL_step 10 (tI r2) rfl rfl (does_move rfl) ?_
  refine okL_step 11 (tB (r2 == 0)) rfl rfl (does_eql rfl rfl) ?_
  refine okL_nil ?_
  refine okX_next ?_
  refine okC_cond (b := (r2 == 0)) rfl (fun hb4 => ?_) (fun hb4 => ?_)
  · replace h := ct hb4 h
    refine okC_seq ?_
    refine okC_region ?_
    refine okL_step 12 (Ty.agg [(tS ⟨#[]⟩), (tI 0), (tB false), (tB false), (tB false), (tB false), (tI 0)]) rfl rfl (does_build [(tS ⟨#[]⟩), (tI 0), (tB false), (tB false), (tB false), (tB false), (tI 0)] Tryd.zeroValue113 Tryd.underlying113 (places113 _ Tryd.underlying113) rfl (fn_ rfl)) ?_
    refine okL_stepU rfl (doesO_storeB (ps := [(tS ⟨#[]⟩), (tI 0), (tB false), (tB false), (tB false), (tB false), (tI 0)]) 0 [(tS ⟨#[]⟩), (tI 0), (tB false), (tB false), (tB false), (tB false), (tI 0)] (Item.blk g1 113 [(tS ⟨#[]⟩), (tI 0), (tB false), (tB false), (tB false), (tB false), (tI 0)] :: L) rfl rfl (part_agg _) Tryd.sizeOf113 rfl rfl rfl rfl ?_)
    refine okL_step 3 (tB false) rfl rfl (does_assign rfl) ?_
    refine okL_nil ?_
    refine okX_next ?_
    refine okC_ret ?_
    refine okX_then_ret ?_
    obtain rfl := (smh h).symm
    exact okX_retCT () Tryd.results99 rfl rfl 0 rfl Tryd.isAgg113 Tryd.sizeOf113 rfl rfl [Item.blk g1 113 [(tS ⟨#[]⟩), (tI 0), (tB false), (tB false), (tB false), (tB false), (tI 0)]] (pm 0 rfl (pr _))
  · replace h := cf hb4 h
    refine okC_skip ?_
    refine okX_next ?_
    refine okC_seq ?_
    refine okC_region ?_
    obtain ⟨r5, hc6, h⟩ := bs h
    refine okL_step 13 (tL 1 lS r5) rfl rfl (does_call0 (c_ref29_names r5 hc6) rfl Tryd.call123 rfl) ?_
    refine okL_step 14 (tI a0) rfl rfl (does_move rfl) ?_
    obtain ⟨y7, hi8, h⟩ := bs h
    refine okL_step 15 (Ty.ptr [(tS y7)]) rfl rfl (does_index (sz := 1) (f := lS) (l := r5) (n := a0) y7 Tryd.underlying156 Tryd.sizeOf9 hi8 rfl rfl) ?_
    refine okL_step 16 (tS y7) rfl rfl (does_load1 Tryd.isAgg9 rfl) ?_
    refine okL_step 17 (tI r2) rfl rfl (does_move rfl) ?_
    refine okL_step 18 (Ty.agg [(tS y7), (tI r2), (tB false), (tB false), (tB false), (tB false), (tI 1)]) rfl rfl (does_build [(tS y7), (tI r2), (tB false), (tB false), (tB false), (tB false), (tI 1)] Tryd.zeroValue113 Tryd.underlying113 (places113 _ Tryd.underlying113) rfl (fc [(tS y7)] 0 rfl (part_one (one_s _)) rfl rfl (fc [(tI r2)] 1 rfl (part_one (one_i _)) rfl rfl (fc [(tI 1)] 6 rfl (part_one (one_i _)) rfl rfl (fn_ rfl))))) ?_
    refine okL_stepO 5 rfl rfl (doesO_alloc [(tS ⟨#[]⟩), (tI 0), (tB false), (tB false), (tB false), (tB false), (tI 0)] Tryd.zeroValue113 (part_of (sub_agg [(.string ⟨#[]⟩), (.int .i64 0), (.bool false), (.bool false), (.bool false), (.bool false), (.int .i64 0)] rfl) (part_agg _)) (fun g9 => ?_))
    refine okL_stepU rfl (doesO_storeB (ps := [(tS y7), (tI r2), (tB false), (tB false), (tB false), (tB false), (tI 1)]) 0 [(tS y7), (tI r2), (tB false), (tB false), (tB false), (tB false), (tI 1)] (Item.blk g9 113 [(tS y7), (tI r2), (tB false), (tB false), (tB false), (tB false), (tI 1)] :: Item.blk g1 113 [(tS ⟨#[]⟩), (tI 0), (tB false), (tB false), (tB false), (tB false), (tI 0)] :: L) rfl rfl (part_agg _) Tryd.sizeOf113 rfl rfl rfl rfl ?_)
    refine okL_nil ?_
    refine okX_next ?_
    obtain ⟨z12, h14, hz13⟩ := bs h
    refine okC_meet (X := Int) (fun x => z12 = x) (fun x : Int => [(0, (tI a0)), (2, (pAt g1 0)), (5, (pAt g9 0))]) (fun x : Int => Item.blk g9 113 [(tS y7), (tI r2), (tB false), (tB false), (tB false), (tB false), (tI x)] :: Item.blk g1 113 [(tS ⟨#[]⟩), (tI 0), (tB false), (tB false), (tB false), (tB false), (tI 0)] :: L) ?_ ?_
    · refine okC_seq ?_
      refine okC_region ?_
      refine okL_step 19 (tI a0) rfl rfl (does_move rfl) ?_
      refine okL_step 20 (tB (a0 == 14)) rfl rfl (does_eql rfl rfl) ?_
      refine okL_nil ?_
      refine okX_next ?_
      refine okC_cond (b := (a0 == 14)) rfl (fun hb15 => ?_) (fun hb15 => ?_)
      · replace h14 := ct hb15 h14
        refine okC_region ?_
        refine okL_step 21 (pAt g9 6) rfl rfl (does_fieldAddrP 6 Tryd.underlying113 rfl Tryd.sizeOf3 rfl rfl) ?_
        refine okL_stepU rfl (doesO_storeB (ps := [(tI 3)]) 0 [(tS y7), (tI r2), (tB false), (tB false), (tB false), (tB false), (tI 3)] (Item.blk g9 113 [(tS y7), (tI r2), (tB false), (tB false), (tB false), (tB false), (tI 3)] :: Item.blk g1 113 [(tS ⟨#[]⟩), (tI 0), (tB false), (tB false), (tB false), (tB false), (tI 0)] :: L) rfl rfl (part_one (one_i _)) Tryd.sizeOf3 rfl rfl rfl rfl ?_)
        refine okL_nil ?_
        exact okX_meet (I := _) 3 (smh h14) (cc rfl (cc rfl (cc rfl cn))) rfl
      · replace h14 := cf hb15 h14
        refine okC_skip ?_
        exact okX_meet (I := _) 1 (smh h14) (cc rfl (cc rfl (cc rfl cn))) rfl
    · intro s10 hx
      change OkC _ _ _ [(0, (tI a0)), (2, (pAt g1 0)), (5, (pAt g9 0))] (Item.blk g9 113 [(tS y7), (tI r2), (tB false), (tB false), (tB false), (tB false), (tI s10)] :: Item.blk g1 113 [(tS ⟨#[]⟩), (tI 0), (tB false), (tB false), (tB false), (tB false), (tI 0)] :: L)
      obtain rfl : s10 = z12 := hx.symm
      replace h := hz13
      refine okC_seq ?_
      refine okC_region ?_
      refine okL_step 22 (tI a0) rfl rfl (does_move rfl) ?_
      refine okL_step 23 (tB (a0 == 11)) rfl rfl (does_eql rfl rfl) ?_
      refine okL_step 24 (tB (a0 == 11)) rfl rfl (does_move rfl) ?_
      refine okL_meet (X := Bool) 3 (fun x => x = ((a0 == 11) || (a0 == 12))) (fun x : Bool => [(0, (tI a0)), (2, (pAt g1 0)), (5, (pAt g9 0)), (27, (tB x))]) (fun x : Bool => Item.blk g9 113 [(tS y7), (tI r2), (tB false), (tB false), (tB false), (tB false), (tI s10)] :: Item.blk g1 113 [(tS ⟨#[]⟩), (tI 0), (tB false), (tB false), (tB false), (tB false), (tI 0)] :: L) _ rfl ?_ ?_
      · refine okL_split (a0 == 11) (fun hb16 => ?_) (fun hb16 => ?_)
        · refine okL_skip 25 24 (a0 == 11) rfl rfl hb16 rfl rfl ?_
          refine okL_skip 26 24 (a0 == 11) rfl rfl hb16 rfl rfl ?_
          refine okL_step 27 (tB true) rfl rfl (does_pick_t (a0 == 11) rfl hb16 rfl) ?_
          refine okL_nil ?_
          exact okX_meet (I := _) true (or_t hb16) (cc rfl (cc rfl (cc rfl (cc rfl cn)))) rfl
        · refine okL_guard 25 (tI a0) 24 (a0 == 11) rfl rfl hb16 rfl rfl (does_move rfl) ?_
          refine okL_guard 26 (tB (a0 == 12)) 24 (a0 == 11) rfl rfl hb16 rfl rfl (does_eql rfl rfl) ?_
          refine okL_step 27 (tB (a0 == 12)) rfl rfl (does_pick_f (a0 == 11) rfl hb16 rfl) ?_
          refine okL_nil ?_
          exact okX_meet (I := _) (a0 == 12) (or_f hb16) (cc rfl (cc rfl (cc rfl (cc rfl cn)))) rfl
      · intro x82 hx
        subst hx
        change OkL _ _ _ _ [(0, (tI a0)), (2, (pAt g1 0)), (5, (pAt g9 0)), (27, (tB ((a0 == 11) || (a0 == 12))))] (Item.blk g9 113 [(tS y7), (tI r2), (tB false), (tB false), (tB false), (tB false), (tI s10)] :: Item.blk g1 113 [(tS ⟨#[]⟩), (tI 0), (tB false), (tB false), (tB false), (tB false), (tI 0)] :: L)
        refine okL_step 6 (tB ((a0 == 11) || (a0 == 12))) rfl rfl (does_assign rfl) ?_
        refine okL_nil ?_
        refine okX_next ?_
        refine okC_seq ?_
        refine okC_region ?_
        refine okL_step 28 (tI a0) rfl rfl (does_move rfl) ?_
        refine okL_step 29 (tB (a0 == 15)) rfl rfl (does_eql rfl rfl) ?_
        refine okL_step 30 (tB (a0 == 15)) rfl rfl (does_move rfl) ?_
        refine okL_meet (X := Bool) 3 (fun x => x = ((a0 == 15) || (a0 == 16))) (fun x : Bool => [(0, (tI a0)), (2, (pAt g1 0)), (5, (pAt g9 0)), (6, (tB ((a0 == 11) || (a0 == 12)))), (33, (tB x))]) (fun x : Bool => Item.blk g9 113 [(tS y7), (tI r2), (tB false), (tB false), (tB false), (tB false), (tI s10)] :: Item.blk g1 113 [(tS ⟨#[]⟩), (tI 0), (tB false), (tB false), (tB false), (tB false), (tI 0)] :: L) _ rfl ?_ ?_
        · refine okL_split (a0 == 15) (fun hb17 => ?_) (fun hb17 => ?_)
          · refine okL_skip 31 30 (a0 == 15) rfl rfl hb17 rfl rfl ?_
            refine okL_skip 32 30 (a0 == 15) rfl rfl hb17 rfl rfl ?_
            refine okL_step 33 (tB true) rfl rfl (does_pick_t (a0 == 15) rfl hb17 rfl) ?_
            refine okL_nil ?_
            exact okX_meet (I := _) true (or_t hb17) (cc rfl (cc rfl (cc rfl (cc rfl (cc rfl cn))))) rfl
          · refine okL_guard 31 (tI a0) 30 (a0 == 15) rfl rfl hb17 rfl rfl (does_move rfl) ?_
            refine okL_guard 32 (tB (a0 == 16)) 30 (a0 == 15) rfl rfl hb17 rfl rfl (does_eql rfl rfl) ?_
            refine okL_step 33 (tB (a0 == 16)) rfl rfl (does_pick_f (a0 == 15) rfl hb17 rfl) ?_
            refine okL_nil ?_
            exact okX_meet (I := _) (a0 == 16) (or_f hb17) (cc rfl (cc rfl (cc rfl (cc rfl (cc rfl cn))))) rfl
        · intro x81 hx
          subst hx
          change OkL _ _ _ _ [(0, (tI a0)), (2, (pAt g1 0)), (5, (pAt g9 0)), (6, (tB ((a0 == 11) || (a0 == 12)))), (33, (tB ((a0 == 15) || (a0 == 16))))] (Item.blk g9 113 [(tS y7), (tI r2), (tB false), (tB false), (tB false), (tB false), (tI s10)] :: Item.blk g1 113 [(tS ⟨#[]⟩), (tI 0), (tB false), (tB false), (tB false), (tB false), (tI 0)] :: L)
          refine okL_step 7 (tB ((a0 == 15) || (a0 == 16))) rfl rfl (does_assign rfl) ?_
          refine okL_nil ?_
          refine okX_next ?_
          refine okC_seq ?_
          refine okC_region ?_
          refine okL_step 34 (tB ((a0 == 11) || (a0 == 12))) rfl rfl (does_move rfl) ?_
          refine okL_step 35 (tB ((a0 == 11) || (a0 == 12))) rfl rfl (does_move rfl) ?_
          refine okL_meet (X := Bool) 2 (fun x => x = (((a0 == 11) || (a0 == 12)) || ((a0 == 15) || (a0 == 16)))) (fun x : Bool => [(0, (tI a0)), (2, (pAt g1 0)), (5, (pAt g9 0)), (6, (tB ((a0 == 11) || (a0 == 12)))), (7, (tB ((a0 == 15) || (a0 == 16)))), (37, (tB x))]) (fun x : Bool => Item.blk g9 113 [(tS y7), (tI r2), (tB false), (tB false), (tB false), (tB false), (tI s10)] :: Item.blk g1 113 [(tS ⟨#[]⟩), (tI 0), (tB false), (tB false), (tB false), (tB false), (tI 0)] :: L) _ rfl ?_ ?_
          · refine okL_split ((a0 == 11) || (a0 == 12)) (fun hb18 => ?_) (fun hb18 => ?_)
            · refine okL_skip 36 35 ((a0 == 11) || (a0 == 12)) rfl rfl hb18 rfl rfl ?_
              refine okL_step 37 (tB true) rfl rfl (does_pick_t ((a0 == 11) || (a0 == 12)) rfl hb18 rfl) ?_
              refine okL_nil ?_
              exact okX_meet (I := _) true (or_t hb18) (cc rfl (cc rfl (cc rfl (cc rfl (cc rfl (cc rfl cn)))))) rfl
            · refine okL_guard 36 (tB ((a0 == 15) || (a0 == 16))) 35 ((a0 == 11) || (a0 == 12)) rfl rfl hb18 rfl rfl (does_move rfl) ?_
              refine okL_step 37 (tB ((a0 == 15) || (a0 == 16))) rfl rfl (does_pick_f ((a0 == 11) || (a0 == 12)) rfl hb18 rfl) ?_
              refine okL_nil ?_
              exact okX_meet (I := _) ((a0 == 15) || (a0 == 16)) (or_f hb18) (cc rfl (cc rfl (cc rfl (cc rfl (cc rfl (cc rfl cn)))))) rfl
          · intro x80 hx
            subst hx
            change OkL _ _ _ _ [(0, (tI a0)), (2, (pAt g1 0)), (5, (pAt g9 0)), (6, (tB ((a0 == 11) || (a0 == 12)))), (7, (tB ((a0 == 15) || (a0 == 16)))), (37, (tB (((a0 == 11) || (a0 == 12)) || ((a0 == 15) || (a0 == 16)))))] (Item.blk g9 113 [(tS y7), (tI r2), (tB false), (tB false), (tB false), (tB false), (tI s10)] :: Item.blk g1 113 [(tS ⟨#[]⟩), (tI 0), (tB false), (tB false), (tB false), (tB false), (tI 0)] :: L)
            refine okL_step 38 (tB (((a0 == 11) || (a0 == 12)) || ((a0 == 15) || (a0 == 16)))) rfl rfl (does_move rfl) ?_
            obtain ⟨z20, h22, hz21⟩ := bs h
            refine okL_meet (X := Bool) 3 (fun x => z20 = x) (fun x : Bool => [(0, (tI a0)), (2, (pAt g1 0)), (5, (pAt g9 0)), (6, (tB ((a0 == 11) || (a0 == 12)))), (7, (tB ((a0 == 15) || (a0 == 16)))), (41, (tB x))]) (fun x : Bool => Item.blk g9 113 [(tS y7), (tI r2), (tB false), (tB false), (tB false), (tB false), (tI s10)] :: Item.blk g1 113 [(tS ⟨#[]⟩), (tI 0), (tB false), (tB false), (tB false), (tB false), (tI 0)] :: L) _ rfl ?_ ?_
            · refine okL_split (((a0 == 11) || (a0 == 12)) || ((a0 == 15) || (a0 == 16))) (fun hb19 => ?_) (fun hb19 => ?_)
              · replace h22 := ct hb19 h22
                refine okL_skip 39 38 (((a0 == 11) || (a0 == 12)) || ((a0 == 15) || (a0 == 16))) rfl rfl hb19 rfl rfl ?_
                refine okL_skip 40 38 (((a0 == 11) || (a0 == 12)) || ((a0 == 15) || (a0 == 16))) rfl rfl hb19 rfl rfl ?_
                refine okL_step 41 (tB true) rfl rfl (does_pick_t (((a0 == 11) || (a0 == 12)) || ((a0 == 15) || (a0 == 16))) rfl hb19 rfl) ?_
                refine okL_nil ?_
                exact okX_meet (I := _) true (smh h22) (cc rfl (cc rfl (cc rfl (cc rfl (cc rfl (cc rfl cn)))))) rfl
              · replace h22 := cf hb19 h22
                refine okL_guard 39 (tI a0) 38 (((a0 == 11) || (a0 == 12)) || ((a0 == 15) || (a0 == 16))) rfl rfl hb19 rfl rfl (does_move rfl) ?_
                obtain ⟨r24, hc25, h22⟩ := bs h22
                refine okL_guard 40 (tB r24) 38 (((a0 == 11) || (a0 == 12)) || ((a0 == 15) || (a0 == 16))) rfl rfl hb19 rfl rfl (does_call0 (c_ref29_IsBinary a0 r24 hc25) rfl Tryd.call124 rfl) ?_
                refine okL_step 41 (tB r24) rfl rfl (does_pick_f (((a0 == 11) || (a0 == 12)) || ((a0 == 15) || (a0 == 16))) rfl hb19 rfl) ?_
                refine okL_nil ?_
                exact okX_meet (I := _) r24 (smh h22) (cc rfl (cc rfl (cc rfl (cc rfl (cc rfl (cc rfl cn)))))) rfl
            · intro x23 hx
              obtain rfl : x23 = z20 := hx.symm
              replace h := hz21
              change OkL _ _ _ _ [(0, (tI a0)), (2, (pAt g1 0)), (5, (pAt g9 0)), (6, (tB ((a0 == 11) || (a0 == 12)))), (7, (tB ((a0 == 15) || (a0 == 16)))), (41, (tB x23))] (Item.blk g9 113 [(tS y7), (tI r2), (tB false), (tB false), (tB false), (tB false), (tI s10)] :: Item.blk g1 113 [(tS ⟨#[]⟩), (tI 0), (tB false), (tB false), (tB false), (tB false), (tI 0)] :: L)
              refine okL_step 42 (tB x23) rfl rfl (does_move rfl) ?_
              refine okL_meet (X := Bool) 3 (fun x => x = (x23 || (a0 == 7))) (fun x : Bool => [(0, (tI a0)), (2, (pAt g1 0)), (5, (pAt g9 0)), (6, (tB ((a0 == 11) || (a0 == 12)))), (7, (tB ((a0 == 15) || (a0 == 16)))), (45, (tB x))]) (fun x : Bool => Item.blk g9 113 [(tS y7), (tI r2), (tB false), (tB false), (tB false), (tB false), (tI s10)] :: Item.blk g1 113 [(tS ⟨#[]⟩), (tI 0), (tB false), (tB false), (tB false), (tB false), (tI 0)] :: L) _ rfl ?_ ?_
              · refine okL_split x23 (fun hb26 => ?_) (fun hb26 => ?_)
                · refine okL_skip 43 42 x23 rfl rfl hb26 rfl rfl ?_
                  refine okL_skip 44 42 x23 rfl rfl hb26 rfl rfl ?_
                  refine okL_step 45 (tB true) rfl rfl (does_pick_t x23 rfl hb26 rfl) ?_
                  refine okL_nil ?_
                  exact okX_meet (I := _) true (or_t hb26) (cc rfl (cc rfl (cc rfl (cc rfl (cc rfl (cc rfl cn)))))) rfl
                · refine okL_guard 43 (tI a0) 42 x23 rfl rfl hb26 rfl rfl (does_move rfl) ?_
                  refine okL_guard 44 (tB (a0 == 7)) 42 x23 rfl rfl hb26 rfl rfl (does_eql rfl rfl) ?_
                  refine okL_step 45 (tB (a0 == 7)) rfl rfl (does_pick_f x23 rfl hb26 rfl) ?_
                  refine okL_nil ?_
                  exact okX_meet (I := _) (a0 == 7) (or_f hb26) (cc rfl (cc rfl (cc rfl (cc rfl (cc rfl (cc rfl cn)))))) rfl
              · intro x79 hx
                subst hx
                change OkL _ _ _ _ [(0, (tI a0)), (2, (pAt g1 0)), (5, (pAt g9 0)), (6, (tB ((a0 == 11) || (a0 == 12)))), (7, (tB ((a0 == 15) || (a0 == 16)))), (45, (tB (x23 || (a0 == 7))))] (Item.blk g9 113 [(tS y7), (tI r2), (tB false), (tB false), (tB false), (tB false), (tI s10)] :: Item.blk g1 113 [(tS ⟨#[]⟩), (tI 0), (tB false), (tB false), (tB false), (tB false), (tI 0)] :: L)
                refine okL_step 46 (tB (x23 || (a0 == 7))) rfl rfl (does_move rfl) ?_
                refine okL_meet (X := Bool) 3 (fun x => x = ((x23 || (a0 == 7)) || (a0 == 8))) (fun x : Bool => [(0, (tI a0)), (2, (pAt g1 0)), (5, (pAt g9 0)), (6, (tB ((a0 == 11) || (a0 == 12)))), (7, (tB ((a0 == 15) || (a0 == 16)))), (49, (tB x))]) (fun x : Bool => Item.blk g9 113 [(tS y7), (tI r2), (tB false), (tB false), (tB false), (tB false), (tI s10)] :: Item.blk g1 113 [(tS ⟨#[]⟩), (tI 0), (tB false), (tB false), (tB false), (tB false), (tI 0)] :: L) _ rfl ?_ ?_
                · refine okL_split (x23 || (a0 == 7)) (fun hb27 => ?_) (fun hb27 => ?_)
                  · refine okL_skip 47 46 (x23 || (a0 == 7)) rfl rfl hb27 rfl rfl ?_
                    refine okL_skip 48 46 (x23 || (a0 == 7)) rfl rfl hb27 rfl rfl ?_
                    refine okL_step 49 (tB true) rfl rfl (does_pick_t (x23 || (a0 == 7)) rfl hb27 rfl) ?_
                    refine okL_nil ?_
                    exact okX_meet (I := _) true (or_t hb27) (cc rfl (cc rfl (cc rfl (cc rfl (cc rfl (cc rfl cn)))))) rfl
                  · refine okL_guard 47 (tI a0) 46 (x23 || (a0 == 7)) rfl rfl hb27 rfl rfl (does_move rfl) ?_
                    refine okL_guard 48 (tB (a0 == 8)) 46 (x23 || (a0 == 7)) rfl rfl hb27 rfl rfl (does_eql rfl rfl) ?_
                    refine okL_step 49 (tB (a0 == 8)) rfl rfl (does_pick_f (x23 || (a0 == 7)) rfl hb27 rfl) ?_
                    refine okL_nil ?_
                    exact okX_meet (I := _) (a0 == 8) (or_f hb27) (cc rfl (cc rfl (cc rfl (cc rfl (cc rfl (cc rfl cn)))))) rfl
                · intro x78 hx
                  subst hx
                  change OkL _ _ _ _ [(0, (tI a0)), (2, (pAt g1 0)), (5, (pAt g9 0)), (6, (tB ((a0 == 11) || (a0 == 12)))), (7, (tB ((a0 == 15) || (a0 == 16)))), (49, (tB ((x23 || (a0 == 7)) || (a0 == 8))))] (Item.blk g9 113 [(tS y7), (tI r2), (tB false), (tB false), (tB false), (tB false), (tI s10)] :: Item.blk g1 113 [(tS ⟨#[]⟩), (tI 0), (tB false), (tB false), (tB false), (tB false), (tI 0)] :: L)
                  refine okL_step 50 (tB ((x23 || (a0 == 7)) || (a0 == 8))) rfl rfl (does_move rfl) ?_
                  refine okL_meet (X := Bool) 3 (fun x => x = (((x23 || (a0 == 7)) || (a0 == 8)) || (a0 == 9))) (fun x : Bool => [(0, (tI a0)), (2, (pAt g1 0)), (5, (pAt g9 0)), (6, (tB ((a0 == 11) || (a0 == 12)))), (7, (tB ((a0 == 15) || (a0 == 16)))), (53, (tB x))]) (fun x : Bool => Item.blk g9 113 [(tS y7), (tI r2), (tB false), (tB false), (tB false), (tB false), (tI s10)] :: Item.blk g1 113 [(tS ⟨#[]⟩), (tI 0), (tB false), (tB false), (tB false), (tB false), (tI 0)] :: L) _ rfl ?_ ?_
                  · refine okL_split ((x23 || (a0 == 7)) || (a0 == 8)) (fun hb28 => ?_) (fun hb28 => ?_)
                    · refine okL_skip 51 50 ((x23 || (a0 == 7)) || (a0 == 8)) rfl rfl hb28 rfl rfl ?_
                      refine okL_skip 52 50 ((x23 || (a0 == 7)) || (a0 == 8)) rfl rfl hb28 rfl rfl ?_
                      refine okL_step 53 (tB true) rfl rfl (does_pick_t ((x23 || (a0 == 7)) || (a0 == 8)) rfl hb28 rfl) ?_
                      refine okL_nil ?_
                      exact okX_meet (I := _) true (or_t hb28) (cc rfl (cc rfl (cc rfl (cc rfl (cc rfl (cc rfl cn)))))) rfl
                    · refine okL_guard 51 (tI a0) 50 ((x23 || (a0 == 7)) || (a0 == 8)) rfl rfl hb28 rfl rfl (does_move rfl) ?_
                      refine okL_guard 52 (tB (a0 == 9)) 50 ((x23 || (a0 == 7)) || (a0 == 8)) rfl rfl hb28 rfl rfl (does_eql rfl rfl) ?_
                      refine okL_step 53 (tB (a0 == 9)) rfl rfl (does_pick_f ((x23 || (a0 == 7)) || (a0 == 8)) rfl hb28 rfl) ?_
                      refine okL_nil ?_
                      exact okX_meet (I := _) (a0 == 9) (or_f hb28) (cc rfl (cc rfl (cc rfl (cc rfl (cc rfl (cc rfl cn)))))) rfl
                  · intro x77 hx
                    subst hx
                    change OkL _ _ _ _ [(0, (tI a0)), (2, (pAt g1 0)), (5, (pAt g9 0)), (6, (tB ((a0 == 11) || (a0 == 12)))), (7, (tB ((a0 == 15) || (a0 == 16)))), (53, (tB (((x23 || (a0 == 7)) || (a0 == 8)) || (a0 == 9))))] (Item.blk g9 113 [(tS y7), (tI r2), (tB false), (tB false), (tB false), (tB false), (tI s10)] :: Item.blk g1 113 [(tS ⟨#[]⟩), (tI 0), (tB false), (tB false), (tB false), (tB false), (tI 0)] :: L)
                    refine okL_step 54 (tB (((x23 || (a0 == 7)) || (a0 == 8)) || (a0 == 9))) rfl rfl (does_move rfl) ?_
                    refine okL_meet (X := Bool) 3 (fun x => x = ((((x23 || (a0 == 7)) || (a0 == 8)) || (a0 == 9)) || (a0 == 33))) (fun x : Bool => [(0, (tI a0)), (2, (pAt g1 0)), (5, (pAt g9 0)), (6, (tB ((a0 == 11) || (a0 == 12)))), (7, (tB ((a0 == 15) || (a0 == 16)))), (57, (tB x))]) (fun x : Bool => Item.blk g9 113 [(tS y7), (tI r2), (tB false), (tB false), (tB false), (tB false), (tI s10)] :: Item.blk g1 113 [(tS ⟨#[]⟩), (tI 0), (tB false), (tB false), (tB false), (tB false), (tI 0)] :: L) _ rfl ?_ ?_
                    · refine okL_split (((x23 || (a0 == 7)) || (a0 == 8)) || (a0 == 9)) (fun hb29 => ?_) (fun hb29 => ?_)
                      · refine okL_skip 55 54 (((x23 || (a0 == 7)) || (a0 == 8)) || (a0 == 9)) rfl rfl hb29 rfl rfl ?_
                        refine okL_skip 56 54 (((x23 || (a0 == 7)) || (a0 == 8)) || (a0 == 9)) rfl rfl hb29 rfl rfl ?_
                        refine okL_step 57 (tB true) rfl rfl (does_pick_t (((x23 || (a0 == 7)) || (a0 == 8)) || (a0 == 9)) rfl hb29 rfl) ?_
                        refine okL_nil ?_
                        exact okX_meet (I := _) true (or_t hb29) (cc rfl (cc rfl (cc rfl (cc rfl (cc rfl (cc rfl cn)))))) rfl
                      · refine okL_guard 55 (tI a0) 54 (((x23 || (a0 == 7)) || (a0 == 8)) || (a0 == 9)) rfl rfl hb29 rfl rfl (does_move rfl) ?_
                        refine okL_guard 56 (tB (a0 == 33)) 54 (((x23 || (a0 == 7)) || (a0 == 8)) || (a0 == 9)) rfl rfl hb29 rfl rfl (does_eql rfl rfl) ?_
                        refine okL_step 57 (tB (a0 == 33)) rfl rfl (does_pick_f (((x23 || (a0 == 7)) || (a0 == 8)) || (a0 == 9)) rfl hb29 rfl) ?_
                        refine okL_nil ?_
                        exact okX_meet (I := _) (a0 == 33) (or_f hb29) (cc rfl (cc rfl (cc rfl (cc rfl (cc rfl (cc rfl cn)))))) rfl
                    · intro x76 hx
                      subst hx
                      change OkL _ _ _ _ [(0, (tI a0)), (2, (pAt g1 0)), (5, (pAt g9 0)), (6, (tB ((a0 == 11) || (a0 == 12)))), (7, (tB ((a0 == 15) || (a0 == 16)))), (57, (tB ((((x23 || (a0 == 7)) || (a0 == 8)) || (a0 == 9)) || (a0 == 33))))] (Item.blk g9 113 [(tS y7), (tI r2), (tB false), (tB false), (tB false), (tB false), (tI s10)] :: Item.blk g1 113 [(tS ⟨#[]⟩), (tI 0), (tB false), (tB false), (tB false), (tB false), (tI 0)] :: L)
                      refine okL_step 58 (tB ((((x23 || (a0 == 7)) || (a0 == 8)) || (a0 == 9)) || (a0 == 33))) rfl rfl (does_move rfl) ?_
                      refine okL_meet (X := Bool) 3 (fun x => x = (((((x23 || (a0 == 7)) || (a0 == 8)) || (a0 == 9)) || (a0 == 33)) || (a0 == 35))) (fun x : Bool => [(0, (tI a0)), (2, (pAt g1 0)), (5, (pAt g9 0)), (6, (tB ((a0 == 11) || (a0 == 12)))), (7, (tB ((a0 == 15) || (a0 == 16)))), (61, (tB x))]) (fun x : Bool => Item.blk g9 113 [(tS y7), (tI r2), (tB false), (tB false), (tB false), (tB false), (tI s10)] :: Item.blk g1 113 [(tS ⟨#[]⟩), (tI 0), (tB false), (tB false), (tB false), (tB false), (tI 0)] :: L) _ rfl ?_ ?_
                      · refine okL_split ((((x23 || (a0 == 7)) || (a0 == 8)) || (a0 == 9)) || (a0 == 33)) (fun hb30 => ?_) (fun hb30 => ?_)
                        · refine okL_skip 59 58 ((((x23 || (a0 == 7)) || (a0 == 8)) || (a0 == 9)) || (a0 == 33)) rfl rfl hb30 rfl rfl ?_
                          refine okL_skip 60 58 ((((x23 || (a0 == 7)) || (a0 == 8)) || (a0 == 9)) || (a0 == 33)) rfl rfl hb30 rfl rfl ?_
                          refine okL_step 61 (tB true) rfl rfl (does_pick_t ((((x23 || (a0 == 7)) || (a0 == 8)) || (a0 == 9)) || (a0 == 33)) rfl hb30 rfl) ?_
                          refine okL_nil ?_
                          exact okX_meet (I := _) true (or_t hb30) (cc rfl (cc rfl (cc rfl (cc rfl (cc rfl (cc rfl cn)))))) rfl
                        · refine okL_guard 59 (tI a0) 58 ((((x23 || (a0 == 7)) || (a0 == 8)) || (a0 == 9)) || (a0 == 33)) rfl rfl hb30 rfl rfl (does_move rfl) ?_
                          refine okL_guard 60 (tB (a0 == 35)) 58 ((((x23 || (a0 == 7)) || (a0 == 8)) || (a0 == 9)) || (a0 == 33)) rfl rfl hb30 rfl rfl (does_eql rfl rfl) ?_
                          refine okL_step 61 (tB (a0 == 35)) rfl rfl (does_pick_f ((((x23 || (a0 == 7)) || (a0 == 8)) || (a0 == 9)) || (a0 == 33)) rfl hb30 rfl) ?_
                          refine okL_nil ?_
                          exact okX_meet (I := _) (a0 == 35) (or_f hb30) (cc rfl (cc rfl (cc rfl (cc rfl (cc rfl (cc rfl cn)))))) rfl
                      · intro x75 hx
                        subst hx
                        change OkL _ _ _ _ [(0, (tI a0)), (2, (pAt g1 0)), (5, (pAt g9 0)), (6, (tB ((a0 == 11) || (a0 == 12)))), (7, (tB ((a0 == 15) || (a0 == 16)))), (61, (tB (((((x23 || (a0 == 7)) || (a0 == 8)) || (a0 == 9)) || (a0 == 33)) || (a0 == 35))))] (Item.blk g9 113 [(tS y7), (tI r2), (tB false), (tB false), (tB false), (tB false), (tI s10)] :: Item.blk g1 113 [(tS ⟨#[]⟩), (tI 0), (tB false), (tB false), (tB false), (tB false), (tI 0)] :: L)
                        refine okL_step 62 (tB (((((x23 || (a0 == 7)) || (a0 == 8)) || (a0 == 9)) || (a0 == 33)) || (a0 == 35))) rfl rfl (does_move rfl) ?_
                        refine okL_meet (X := Bool) 3 (fun x => x = ((((((x23 || (a0 == 7)) || (a0 == 8)) || (a0 == 9)) || (a0 == 33)) || (a0 == 35)) || (a0 == 37))) (fun x : Bool => [(0, (tI a0)), (2, (pAt g1 0)), (5, (pAt g9 0)), (6, (tB ((a0 == 11) || (a0 == 12)))), (7, (tB ((a0 == 15) || (a0 == 16)))), (65, (tB x))]) (fun x : Bool => Item.blk g9 113 [(tS y7), (tI r2), (tB false), (tB false), (tB false), (tB false), (tI s10)] :: Item.blk g1 113 [(tS ⟨#[]⟩), (tI 0), (tB false), (tB false), (tB false), (tB false), (tI 0)] :: L) _ rfl ?_ ?_
                        · refine okL_split (((((x23 || (a0 == 7)) || (a0 == 8)) || (a0 == 9)) || (a0 == 33)) || (a0 == 35)) (fun hb31 => ?_) (fun hb31 => ?_)
                          · refine okL_skip 63 62 (((((x23 || (a0 == 7)) || (a0 == 8)) || (a0 == 9)) || (a0 == 33)) || (a0 == 35)) rfl rfl hb31 rfl rfl ?_
                            refine okL_skip 64 62 (((((x23 || (a0 == 7)) || (a0 == 8)) || (a0 == 9)) || (a0 == 33)) || (a0 == 35)) rfl rfl hb31 rfl rfl ?_
                            refine okL_step 65 (tB true) rfl rfl (does_pick_t (((((x23 || (a0 == 7)) || (a0 == 8)) || (a0 == 9)) || (a0 == 33)) || (a0 == 35)) rfl hb31 rfl) ?_
                            refine okL_nil ?_
                            exact okX_meet (I := _) true (or_t hb31) (cc rfl (cc rfl (cc rfl (cc rfl (cc rfl (cc rfl cn)))))) rfl
                          · refine okL_guard 63 (tI a0) 62 (((((x23 || (a0 == 7)) || (a0 == 8)) || (a0 == 9)) || (a0 == 33)) || (a0 == 35)) rfl rfl hb31 rfl rfl (does_move rfl) ?_
                            refine okL_guard 64 (tB (a0 == 37)) 62 (((((x23 || (a0 == 7)) || (a0 == 8)) || (a0 == 9)) || (a0 == 33)) || (a0 == 35)) rfl rfl hb31 rfl rfl (does_eql rfl rfl) ?_
                            refine okL_step 65 (tB (a0 == 37)) rfl rfl (does_pick_f (((((x23 || (a0 == 7)) || (a0 == 8)) || (a0 == 9)) || (a0 == 33)) || (a0 == 35)) rfl hb31 rfl) ?_
                            refine okL_nil ?_
                            exact okX_meet (I := _) (a0 == 37) (or_f hb31) (cc rfl (cc rfl (cc rfl (cc rfl (cc rfl (cc rfl cn)))))) rfl
                        · intro x74 hx
                          subst hx
                          change OkL _ _ _ _ [(0, (tI a0)), (2, (pAt g1 0)), (5, (pAt g9 0)), (6, (tB ((a0 == 11) || (a0 == 12)))), (7, (tB ((a0 == 15) || (a0 == 16)))), (65, (tB ((((((x23 || (a0 == 7)) || (a0 == 8)) || (a0 == 9)) || (a0 == 33)) || (a0 == 35)) || (a0 == 37))))] (Item.blk g9 113 [(tS y7), (tI r2), (tB false), (tB false), (tB false), (tB false), (tI s10)] :: Item.blk g1 113 [(tS ⟨#[]⟩), (tI 0), (tB false), (tB false), (tB false), (tB false), (tI 0)] :: L)
                          refine okL_step 66 (pAt g9 2) rfl rfl (does_fieldAddrP 2 Tryd.underlying113 rfl Tryd.sizeOf4 rfl rfl) ?_
                          refine okL_stepU rfl (doesO_storeB (ps := [(tB ((((((x23 || (a0 == 7)) || (a0 == 8)) || (a0 == 9)) || (a0 == 33)) || (a0 == 35)) || (a0 == 37)))]) 0 [(tS y7), (tI r2), (tB ((((((x23 || (a0 == 7)) || (a0 == 8)) || (a0 == 9)) || (a0 == 33)) || (a0 == 35)) || (a0 == 37))), (tB false), (tB false), (tB false), (tI s10)] (Item.blk g9 113 [(tS y7), (tI r2), (tB ((((((x23 || (a0 == 7)) || (a0 == 8)) || (a0 == 9)) || (a0 == 33)) || (a0 == 35)) || (a0 == 37))), (tB false), (tB false), (tB false), (tI s10)] :: Item.blk g1 113 [(tS ⟨#[]⟩), (tI 0), (tB false), (tB false), (tB false), (tB false), (tI 0)] :: L) rfl rfl (part_one (one_b _)) Tryd.sizeOf4 rfl rfl rfl rfl ?_)
                          refine okL_nil ?_
                          refine okX_next ?_
                          refine okC_seq ?_
                          refine okC_region ?_
                          refine okL_step 67 (tB ((a0 == 11) || (a0 == 12))) rfl rfl (does_move rfl) ?_
                          refine okL_step 68 (tB ((a0 == 11) || (a0 == 12))) rfl rfl (does_move rfl) ?_
                          refine okL_meet (X := Bool) 2 (fun x => x = (((a0 == 11) || (a0 == 12)) || ((a0 == 15) || (a0 == 16)))) (fun x : Bool => [(0, (tI a0)), (2, (pAt g1 0)), (5, (pAt g9 0)), (6, (tB ((a0 == 11) || (a0 == 12)))), (70, (tB x))]) (fun x : Bool => Item.blk g9 113 [(tS y7), (tI r2), (tB ((((((x23 || (a0 == 7)) || (a0 == 8)) || (a0 == 9)) || (a0 == 33)) || (a0 == 35)) || (a0 == 37))), (tB false), (tB false), (tB false), (tI s10)] :: Item.blk g1 113 [(tS ⟨#[]⟩), (tI 0), (tB false), (tB false), (tB false), (tB false), (tI 0)] :: L) _ rfl ?_ ?_
                          · refine okL_split ((a0 == 11) || (a0 == 12)) (fun hb32 => ?_) (fun hb32 => ?_)
                            · refine okL_skip 69 68 ((a0 == 11) || (a0 == 12)) rfl rfl hb32 rfl rfl ?_
                              refine okL_step 70 (tB true) rfl rfl (does_pick_t ((a0 == 11) || (a0 == 12)) rfl hb32 rfl) ?_
                              refine okL_nil ?_
                              exact okX_meet (I := _) true (or_t hb32) (cc rfl (cc rfl (cc rfl (cc rfl (cc rfl cn))))) rfl
                            · refine okL_guard 69 (tB ((a0 == 15) || (a0 == 16))) 68 ((a0 == 11) || (a0 == 12)) rfl rfl hb32 rfl rfl (does_move rfl) ?_
                              refine okL_step 70 (tB ((a0 == 15) || (a0 == 16))) rfl rfl (does_pick_f ((a0 == 11) || (a0 == 12)) rfl hb32 rfl) ?_
                              refine okL_nil ?_
                              exact okX_meet (I := _) ((a0 == 15) || (a0 == 16)) (or_f hb32) (cc rfl (cc rfl (cc rfl (cc rfl (cc rfl cn))))) rfl
                          · intro x73 hx
                            subst hx
                            change OkL _ _ _ _ [(0, (tI a0)), (2, (pAt g1 0)), (5, (pAt g9 0)), (6, (tB ((a0 == 11) || (a0 == 12)))), (70, (tB (((a0 == 11) || (a0 == 12)) || ((a0 == 15) || (a0 == 16)))))] (Item.blk g9 113 [(tS y7), (tI r2), (tB ((((((x23 || (a0 == 7)) || (a0 == 8)) || (a0 == 9)) || (a0 == 33)) || (a0 == 35)) || (a0 == 37))), (tB false), (tB false), (tB false), (tI s10)] :: Item.blk g1 113 [(tS ⟨#[]⟩), (tI 0), (tB false), (tB false), (tB false), (tB false), (tI 0)] :: L)
                            refine okL_step 71 (tB (((a0 == 11) || (a0 == 12)) || ((a0 == 15) || (a0 == 16)))) rfl rfl (does_move rfl) ?_
                            obtain ⟨z34, h36, hz35⟩ := bs h
                            refine okL_meet (X := Bool) 3 (fun x => z34 = x) (fun x : Bool => [(0, (tI a0)), (2, (pAt g1 0)), (5, (pAt g9 0)), (6, (tB ((a0 == 11) || (a0 == 12)))), (74, (tB x))]) (fun x : Bool => Item.blk g9 113 [(tS y7), (tI r2), (tB ((((((x23 || (a0 == 7)) || (a0 == 8)) || (a0 == 9)) || (a0 == 33)) || (a0 == 35)) || (a0 == 37))), (tB false), (tB false), (tB false), (tI s10)] :: Item.blk g1 113 [(tS ⟨#[]⟩), (tI 0), (tB false), (tB false), (tB false), (tB false), (tI 0)] :: L) _ rfl ?_ ?_
                            · refine okL_split (((a0 == 11) || (a0 == 12)) || ((a0 == 15) || (a0 == 16))) (fun hb33 => ?_) (fun hb33 => ?_)
                              · replace h36 := ct hb33 h36
                                refine okL_skip 72 71 (((a0 == 11) || (a0 == 12)) || ((a0 == 15) || (a0 == 16))) rfl rfl hb33 rfl rfl ?_
                                refine okL_skip 73 71 (((a0 == 11) || (a0 == 12)) || ((a0 == 15) || (a0 == 16))) rfl rfl hb33 rfl rfl ?_
                                refine okL_step 74 (tB true) rfl rfl (does_pick_t (((a0 == 11) || (a0 == 12)) || ((a0 == 15) || (a0 == 16))) rfl hb33 rfl) ?_
                                refine okL_nil ?_
                                exact okX_meet (I := _) true (smh h36) (cc rfl (cc rfl (cc rfl (cc rfl (cc rfl cn))))) rfl
                              · replace h36 := cf hb33 h36
                                refine okL_guard 72 (tI a0) 71 (((a0 == 11) || (a0 == 12)) || ((a0 == 15) || (a0 == 16))) rfl rfl hb33 rfl rfl (does_move rfl) ?_
                                obtain ⟨r38, hc39, h36⟩ := bs h36
                                refine okL_guard 73 (tB r38) 71 (((a0 == 11) || (a0 == 12)) || ((a0 == 15) || (a0 == 16))) rfl rfl hb33 rfl rfl (does_call0 (c_ref29_IsBinary a0 r38 hc39) rfl Tryd.call124 rfl) ?_
                                refine okL_step 74 (tB r38) rfl rfl (does_pick_f (((a0 == 11) || (a0 == 12)) || ((a0 == 15) || (a0 == 16))) rfl hb33 rfl) ?_
                                refine okL_nil ?_
                                exact okX_meet (I := _) r38 (smh h36) (cc rfl (cc rfl (cc rfl (cc rfl (cc rfl cn))))) rfl
                            · intro x37 hx
                              obtain rfl : x37 = z34 := hx.symm
                              replace h := hz35
                              change OkL _ _ _ _ [(0, (tI a0)), (2, (pAt g1 0)), (5, (pAt g9 0)), (6, (tB ((a0 == 11) || (a0 == 12)))), (74, (tB x37))] (Item.blk g9 113 [(tS y7), (tI r2), (tB ((((((x23 || (a0 == 7)) || (a0 == 8)) || (a0 == 9)) || (a0 == 33)) || (a0 == 35)) || (a0 == 37))), (tB false), (tB false), (tB false), (tI s10)] :: Item.blk g1 113 [(tS ⟨#[]⟩), (tI 0), (tB false), (tB false), (tB false), (tB false), (tI 0)] :: L)
                              refine okL_step 75 (tB x37) rfl rfl (does_move rfl) ?_
                              refine okL_meet (X := Bool) 3 (fun x => x = (x37 || (a0 == 10))) (fun x : Bool => [(0, (tI a0)), (2, (pAt g1 0)), (5, (pAt g9 0)), (6, (tB ((a0 == 11) || (a0 == 12)))), (78, (tB x))]) (fun x : Bool => Item.blk g9 113 [(tS y7), (tI r2), (tB ((((((x23 || (a0 == 7)) || (a0 == 8)) || (a0 == 9)) || (a0 == 33)) || (a0 == 35)) || (a0 == 37))), (tB false), (tB false), (tB false), (tI s10)] :: Item.blk g1 113 [(tS ⟨#[]⟩), (tI 0), (tB false), (tB false), (tB false), (tB false), (tI 0)] :: L) _ rfl ?_ ?_
                              · refine okL_split x37 (fun hb40 => ?_) (fun hb40 => ?_)
                                · refine okL_skip 76 75 x37 rfl rfl hb40 rfl rfl ?_
                                  refine okL_skip 77 75 x37 rfl rfl hb40 rfl rfl ?_
                                  refine okL_step 78 (tB true) rfl rfl (does_pick_t x37 rfl hb40 rfl) ?_
                                  refine okL_nil ?_
                                  exact okX_meet (I := _) true (or_t hb40) (cc rfl (cc rfl (cc rfl (cc rfl (cc rfl cn))))) rfl
                                · refine okL_guard 76 (tI a0) 75 x37 rfl rfl hb40 rfl rfl (does_move rfl) ?_
                                  refine okL_guard 77 (tB (a0 == 10)) 75 x37 rfl rfl hb40 rfl rfl (does_eql rfl rfl) ?_
                                  refine okL_step 78 (tB (a0 == 10)) rfl rfl (does_pick_f x37 rfl hb40 rfl) ?_
                                  refine okL_nil ?_
                                  exact okX_meet (I := _) (a0 == 10) (or_f hb40) (cc rfl (cc rfl (cc rfl (cc rfl (cc rfl cn))))) rfl
                              · intro x72 hx
                                subst hx
                                change OkL _ _ _ _ [(0, (tI a0)), (2, (pAt g1 0)), (5, (pAt g9 0)), (6, (tB ((a0 == 11) || (a0 == 12)))), (78, (tB (x37 || (a0 == 10))))] (Item.blk g9 113 [(tS y7), (tI r2), (tB ((((((x23 || (a0 == 7)) || (a0 == 8)) || (a0 == 9)) || (a0 == 33)) || (a0 == 35)) || (a0 == 37))), (tB false), (tB false), (tB false), (tI s10)] :: Item.blk g1 113 [(tS ⟨#[]⟩), (tI 0), (tB false), (tB false), (tB false), (tB false), (tI 0)] :: L)
                                refine okL_step 79 (tB (x37 || (a0 == 10))) rfl rfl (does_move rfl) ?_
                                refine okL_meet (X := Bool) 3 (fun x => x = ((x37 || (a0 == 10)) || (a0 == 13))) (fun x : Bool => [(0, (tI a0)), (2, (pAt g1 0)), (5, (pAt g9 0)), (6, (tB ((a0 == 11) || (a0 == 12)))), (82, (tB x))]) (fun x : Bool => Item.blk g9 113 [(tS y7), (tI r2), (tB ((((((x23 || (a0 == 7)) || (a0 == 8)) || (a0 == 9)) || (a0 == 33)) || (a0 == 35)) || (a0 == 37))), (tB false), (tB false), (tB false), (tI s10)] :: Item.blk g1 113 [(tS ⟨#[]⟩), (tI 0), (tB false), (tB false), (tB false), (tB false), (tI 0)] :: L) _ rfl ?_ ?_
                                · refine okL_split (x37 || (a0 == 10)) (fun hb41 => ?_) (fun hb41 => ?_)
                                  · refine okL_skip 80 79 (x37 || (a0 == 10)) rfl rfl hb41 rfl rfl ?_
                                    refine okL_skip 81 79 (x37 || (a0 == 10)) rfl rfl hb41 rfl rfl ?_
                                    refine okL_step 82 (tB true) rfl rfl (does_pick_t (x37 || (a0 == 10)) rfl hb41 rfl) ?_
                                    refine okL_nil ?_
                                    exact okX_meet (I := _) true (or_t hb41) (cc rfl (cc rfl (cc rfl (cc rfl (cc rfl cn))))) rfl
                                  · refine okL_guard 80 (tI a0) 79 (x37 || (a0 == 10)) rfl rfl hb41 rfl rfl (does_move rfl) ?_
                                    refine okL_guard 81 (tB (a0 == 13)) 79 (x37 || (a0 == 10)) rfl rfl hb41 rfl rfl (does_eql rfl rfl) ?_
                                    refine okL_step 82 (tB (a0 == 13)) rfl rfl (does_pick_f (x37 || (a0 == 10)) rfl hb41 rfl) ?_
                                    refine okL_nil ?_
                                    exact okX_meet (I := _) (a0 == 13) (or_f hb41) (cc rfl (cc rfl (cc rfl (cc rfl (cc rfl cn))))) rfl
                                · intro x71 hx
                                  subst hx
                                  change OkL _ _ _ _ [(0, (tI a0)), (2, (pAt g1 0)), (5, (pAt g9 0)), (6, (tB ((a0 == 11) || (a0 == 12)))), (82, (tB ((x37 || (a0 == 10)) || (a0 == 13))))] (Item.blk g9 113 [(tS y7), (tI r2), (tB ((((((x23 || (a0 == 7)) || (a0 == 8)) || (a0 == 9)) || (a0 == 33)) || (a0 == 35)) || (a0 == 37))), (tB false), (tB false), (tB false), (tI s10)] :: Item.blk g1 113 [(tS ⟨#[]⟩), (tI 0), (tB false), (tB false), (tB false), (tB false), (tI 0)] :: L)
                                  refine okL_step 83 (tB ((x37 || (a0 == 10)) || (a0 == 13))) rfl rfl (does_move rfl) ?_
                                  refine okL_meet (X := Bool) 3 (fun x => x = (((x37 || (a0 == 10)) || (a0 == 13)) || (a0 == 14))) (fun x : Bool => [(0, (tI a0)), (2, (pAt g1 0)), (5, (pAt g9 0)), (6, (tB ((a0 == 11) || (a0 == 12)))), (86, (tB x))]) (fun x : Bool => Item.blk g9 113 [(tS y7), (tI r2), (tB ((((((x23 || (a0 == 7)) || (a0 == 8)) || (a0 == 9)) || (a0 == 33)) || (a0 == 35)) || (a0 == 37))), (tB false), (tB false), (tB false), (tI s10)] :: Item.blk g1 113 [(tS ⟨#[]⟩), (tI 0), (tB false), (tB false), (tB false), (tB false), (tI 0)] :: L) _ rfl ?_ ?_
                                  · refine okL_split ((x37 || (a0 == 10)) || (a0 == 13)) (fun hb42 => ?_) (fun hb42 => ?_)
                                    · refine okL_skip 84 83 ((x37 || (a0 == 10)) || (a0 == 13)) rfl rfl hb42 rfl rfl ?_
                                      refine okL_skip 85 83 ((x37 || (a0 == 10)) || (a0 == 13)) rfl rfl hb42 rfl rfl ?_
                                      refine okL_step 86 (tB true) rfl rfl (does_pick_t ((x37 || (a0 == 10)) || (a0 == 13)) rfl hb42 rfl) ?_
                                      refine okL_nil ?_
                                      exact okX_meet (I := _) true (or_t hb42) (cc rfl (cc rfl (cc rfl (cc rfl (cc rfl cn))))) rfl
                                    · refine okL_guard 84 (tI a0) 83 ((x37 || (a0 == 10)) || (a0 == 13)) rfl rfl hb42 rfl rfl (does_move rfl) ?_
                                      refine okL_guard 85 (tB (a0 == 14)) 83 ((x37 || (a0 == 10)) || (a0 == 13)) rfl rfl hb42 rfl rfl (does_eql rfl rfl) ?_
                                      refine okL_step 86 (tB (a0 == 14)) rfl rfl (does_pick_f ((x37 || (a0 == 10)) || (a0 == 13)) rfl hb42 rfl) ?_
                                      refine okL_nil ?_
                                      exact okX_meet (I := _) (a0 == 14) (or_f hb42) (cc rfl (cc rfl (cc rfl (cc rfl (cc rfl cn))))) rfl
                                  · intro x70 hx
                                    subst hx
                                    change OkL _ _ _ _ [(0, (tI a0)), (2, (pAt g1 0)), (5, (pAt g9 0)), (6, (tB ((a0 == 11) || (a0 == 12)))), (86, (tB (((x37 || (a0 == 10)) || (a0 == 13)) || (a0 == 14))))] (Item.blk g9 113 [(tS y7), (tI r2), (tB ((((((x23 || (a0 == 7)) || (a0 == 8)) || (a0 == 9)) || (a0 == 33)) || (a0 == 35)) || (a0 == 37))), (tB false), (tB false), (tB false), (tI s10)] :: Item.blk g1 113 [(tS ⟨#[]⟩), (tI 0), (tB false), (tB false), (tB false), (tB false), (tI 0)] :: L)
                                    refine okL_step 87 (tB (((x37 || (a0 == 10)) || (a0 == 13)) || (a0 == 14))) rfl rfl (does_move rfl) ?_
                                    refine okL_meet (X := Bool) 3 (fun x => x = ((((x37 || (a0 == 10)) || (a0 == 13)) || (a0 == 14)) || (a0 == 33))) (fun x : Bool => [(0, (tI a0)), (2, (pAt g1 0)), (5, (pAt g9 0)), (6, (tB ((a0 == 11) || (a0 == 12)))), (90, (tB x))]) (fun x : Bool => Item.blk g9 113 [(tS y7), (tI r2), (tB ((((((x23 || (a0 == 7)) || (a0 == 8)) || (a0 == 9)) || (a0 == 33)) || (a0 == 35)) || (a0 == 37))), (tB false), (tB false), (tB false), (tI s10)] :: Item.blk g1 113 [(tS ⟨#[]⟩), (tI 0), (tB false), (tB false), (tB false), (tB false), (tI 0)] :: L) _ rfl ?_ ?_
                                    · refine okL_split (((x37 || (a0 == 10)) || (a0 == 13)) || (a0 == 14)) (fun hb43 => ?_) (fun hb43 => ?_)
                                      · refine okL_skip 88 87 (((x37 || (a0 == 10)) || (a0 == 13)) || (a0 == 14)) rfl rfl hb43 rfl rfl ?_
                                        refine okL_skip 89 87 (((x37 || (a0 == 10)) || (a0 == 13)) || (a0 == 14)) rfl rfl hb43 rfl rfl ?_
                                        refine okL_step 90 (tB true) rfl rfl (does_pick_t (((x37 || (a0 == 10)) || (a0 == 13)) || (a0 == 14)) rfl hb43 rfl) ?_
                                        refine okL_nil ?_
                                        exact okX_meet (I := _) true (or_t hb43) (cc rfl (cc rfl (cc rfl (cc rfl (cc rfl cn))))) rfl
                                      · refine okL_guard 88 (tI a0) 87 (((x37 || (a0 == 10)) || (a0 == 13)) || (a0 == 14)) rfl rfl hb43 rfl rfl (does_move rfl) ?_
                                        refine okL_guard 89 (tB (a0 == 33)) 87 (((x37 || (a0 == 10)) || (a0 == 13)) || (a0 == 14)) rfl rfl hb43 rfl rfl (does_eql rfl rfl) ?_
                                        refine okL_step 90 (tB (a0 == 33)) rfl rfl (does_pick_f (((x37 || (a0 == 10)) || (a0 == 13)) || (a0 == 14)) rfl hb43 rfl) ?_
                                        refine okL_nil ?_
                                        exact okX_meet (I := _) (a0 == 33) (or_f hb43) (cc rfl (cc rfl (cc rfl (cc rfl (cc rfl cn))))) rfl
                                    · intro x69 hx
                                      subst hx
                                      change OkL _ _ _ _ [(0, (tI a0)), (2, (pAt g1 0)), (5, (pAt g9 0)), (6, (tB ((a0 == 11) || (a0 == 12)))), (90, (tB ((((x37 || (a0 == 10)) || (a0 == 13)) || (a0 == 14)) || (a0 == 33))))] (Item.blk g9 113 [(tS y7), (tI r2), (tB ((((((x23 || (a0 == 7)) || (a0 == 8)) || (a0 == 9)) || (a0 == 33)) || (a0 == 35)) || (a0 == 37))), (tB false), (tB false), (tB false), (tI s10)] :: Item.blk g1 113 [(tS ⟨#[]⟩), (tI 0), (tB false), (tB false), (tB false), (tB false), (tI 0)] :: L)
                                      refine okL_step 91 (tB ((((x37 || (a0 == 10)) || (a0 == 13)) || (a0 == 14)) || (a0 == 33))) rfl rfl (does_move rfl) ?_
                                      refine okL_meet (X := Bool) 3 (fun x => x = (((((x37 || (a0 == 10)) || (a0 == 13)) || (a0 == 14)) || (a0 == 33)) || (a0 == 34))) (fun x : Bool => [(0, (tI a0)), (2, (pAt g1 0)), (5, (pAt g9 0)), (6, (tB ((a0 == 11) || (a0 == 12)))), (94, (tB x))]) (fun x : Bool => Item.blk g9 113 [(tS y7), (tI r2), (tB ((((((x23 || (a0 == 7)) || (a0 == 8)) || (a0 == 9)) || (a0 == 33)) || (a0 == 35)) || (a0 == 37))), (tB false), (tB false), (tB false), (tI s10)] :: Item.blk g1 113 [(tS ⟨#[]⟩), (tI 0), (tB false), (tB false), (tB false), (tB false), (tI 0)] :: L) _ rfl ?_ ?_
                                      · refine okL_split ((((x37 || (a0 == 10)) || (a0 == 13)) || (a0 == 14)) || (a0 == 33)) (fun hb44 => ?_) (fun hb44 => ?_)
                                        · refine okL_skip 92 91 ((((x37 || (a0 == 10)) || (a0 == 13)) || (a0 == 14)) || (a0 == 33)) rfl rfl hb44 rfl rfl ?_
                                          refine okL_skip 93 91 ((((x37 || (a0 == 10)) || (a0 == 13)) || (a0 == 14)) || (a0 == 33)) rfl rfl hb44 rfl rfl ?_
                                          refine okL_step 94 (tB true) rfl rfl (does_pick_t ((((x37 || (a0 == 10)) || (a0 == 13)) || (a0 == 14)) || (a0 == 33)) rfl hb44 rfl) ?_
                                          refine okL_nil ?_
                                          exact okX_meet (I := _) true (or_t hb44) (cc rfl (cc rfl (cc rfl (cc rfl (cc rfl cn))))) rfl
                                        · refine okL_guard 92 (tI a0) 91 ((((x37 || (a0 == 10)) || (a0 == 13)) || (a0 == 14)) || (a0 == 33)) rfl rfl hb44 rfl rfl (does_move rfl) ?_
                                          refine okL_guard 93 (tB (a0 == 34)) 91 ((((x37 || (a0 == 10)) || (a0 == 13)) || (a0 == 14)) || (a0 == 33)) rfl rfl hb44 rfl rfl (does_eql rfl rfl) ?_
                                          refine okL_step 94 (tB (a0 == 34)) rfl rfl (does_pick_f ((((x37 || (a0 == 10)) || (a0 == 13)) || (a0 == 14)) || (a0 == 33)) rfl hb44 rfl) ?_
                                          refine okL_nil ?_
                                          exact okX_meet (I := _) (a0 == 34) (or_f hb44) (cc rfl (cc rfl (cc rfl (cc rfl (cc rfl cn))))) rfl
                                      · intro x68 hx
                                        subst hx
                                        change OkL _ _ _ _ [(0, (tI a0)), (2, (pAt g1 0)), (5, (pAt g9 0)), (6, (tB ((a0 == 11) || (a0 == 12)))), (94, (tB (((((x37 || (a0 == 10)) || (a0 == 13)) || (a0 == 14)) || (a0 == 33)) || (a0 == 34))))] (Item.blk g9 113 [(tS y7), (tI r2), (tB ((((((x23 || (a0 == 7)) || (a0 == 8)) || (a0 == 9)) || (a0 == 33)) || (a0 == 35)) || (a0 == 37))), (tB false), (tB false), (tB false), (tI s10)] :: Item.blk g1 113 [(tS ⟨#[]⟩), (tI 0), (tB false), (tB false), (tB false), (tB false), (tI 0)] :: L)
                                        refine okL_step 95 (tB (((((x37 || (a0 == 10)) || (a0 == 13)) || (a0 == 14)) || (a0 == 33)) || (a0 == 34))) rfl rfl (does_move rfl) ?_
                                        refine okL_meet (X := Bool) 3 (fun x => x = ((((((x37 || (a0 == 10)) || (a0 == 13)) || (a0 == 14)) || (a0 == 33)) || (a0 == 34)) || (a0 == 36))) (fun x : Bool => [(0, (tI a0)), (2, (pAt g1 0)), (5, (pAt g9 0)), (6, (tB ((a0 == 11) || (a0 == 12)))), (98, (tB x))]) (fun x : Bool => Item.blk g9 113 [(tS y7), (tI r2), (tB ((((((x23 || (a0 == 7)) || (a0 == 8)) || (a0 == 9)) || (a0 == 33)) || (a0 == 35)) || (a0 == 37))), (tB false), (tB false), (tB false), (tI s10)] :: Item.blk g1 113 [(tS ⟨#[]⟩), (tI 0), (tB false), (tB false), (tB false), (tB false), (tI 0)] :: L) _ rfl ?_ ?_
                                        · refine okL_split (((((x37 || (a0 == 10)) || (a0 == 13)) || (a0 == 14)) || (a0 == 33)) || (a0 == 34)) (fun hb45 => ?_) (fun hb45 => ?_)
                                          · refine okL_skip 96 95 (((((x37 || (a0 == 10)) || (a0 == 13)) || (a0 == 14)) || (a0 == 33)) || (a0 == 34)) rfl rfl hb45 rfl rfl ?_
                                            refine okL_skip 97 95 (((((x37 || (a0 == 10)) || (a0 == 13)) || (a0 == 14)) || (a0 == 33)) || (a0 == 34)) rfl rfl hb45 rfl rfl ?_
                                            refine okL_step 98 (tB true) rfl rfl (does_pick_t (((((x37 || (a0 == 10)) || (a0 == 13)) || (a0 == 14)) || (a0 == 33)) || (a0 == 34)) rfl hb45 rfl) ?_
                                            refine okL_nil ?_
                                            exact okX_meet (I := _) true (or_t hb45) (cc rfl (cc rfl (cc rfl (cc rfl (cc rfl cn))))) rfl
                                          · refine okL_guard 96 (tI a0) 95 (((((x37 || (a0 == 10)) || (a0 == 13)) || (a0 == 14)) || (a0 == 33)) || (a0 == 34)) rfl rfl hb45 rfl rfl (does_move rfl) ?_
                                            refine okL_guard 97 (tB (a0 == 36)) 95 (((((x37 || (a0 == 10)) || (a0 == 13)) || (a0 == 14)) || (a0 == 33)) || (a0 == 34)) rfl rfl hb45 rfl rfl (does_eql rfl rfl) ?_
                                            refine okL_step 98 (tB (a0 == 36)) rfl rfl (does_pick_f (((((x37 || (a0 == 10)) || (a0 == 13)) || (a0 == 14)) || (a0 == 33)) || (a0 == 34)) rfl hb45 rfl) ?_
                                            refine okL_nil ?_
                                            exact okX_meet (I := _) (a0 == 36) (or_f hb45) (cc rfl (cc rfl (cc rfl (cc rfl (cc rfl cn))))) rfl
                                        · intro x67 hx
                                          subst hx
                                          change OkL _ _ _ _ [(0, (tI a0)), (2, (pAt g1 0)), (5, (pAt g9 0)), (6, (tB ((a0 == 11) || (a0 == 12)))), (98, (tB ((((((x37 || (a0 == 10)) || (a0 == 13)) || (a0 == 14)) || (a0 == 33)) || (a0 == 34)) || (a0 == 36))))] (Item.blk g9 113 [(tS y7), (tI r2), (tB ((((((x23 || (a0 == 7)) || (a0 == 8)) || (a0 == 9)) || (a0 == 33)) || (a0 == 35)) || (a0 == 37))), (tB false), (tB false), (tB false), (tI s10)] :: Item.blk g1 113 [(tS ⟨#[]⟩), (tI 0), (tB false), (tB false), (tB false), (tB false), (tI 0)] :: L)
                                          refine okL_step 99 (pAt g9 3) rfl rfl (does_fieldAddrP 3 Tryd.underlying113 rfl Tryd.sizeOf4 rfl rfl) ?_
                                          refine okL_stepU rfl (doesO_storeB (ps := [(tB ((((((x37 || (a0 == 10)) || (a0 == 13)) || (a0 == 14)) || (a0 == 33)) || (a0 == 34)) || (a0 == 36)))]) 0 [(tS y7), (tI r2), (tB ((((((x23 || (a0 == 7)) || (a0 == 8)) || (a0 == 9)) || (a0 == 33)) || (a0 == 35)) || (a0 == 37))), (tB ((((((x37 || (a0 == 10)) || (a0 == 13)) || (a0 == 14)) || (a0 == 33)) || (a0 == 34)) || (a0 == 36))), (tB false), (tB false), (tI s10)] (Item.blk g9 113 [(tS y7), (tI r2), (tB ((((((x23 || (a0 == 7)) || (a0 == 8)) || (a0 == 9)) || (a0 == 33)) || (a0 == 35)) || (a0 == 37))), (tB ((((((x37 || (a0 == 10)) || (a0 == 13)) || (a0 == 14)) || (a0 == 33)) || (a0 == 34)) || (a0 == 36))), (tB false), (tB false), (tI s10)] :: Item.blk g1 113 [(tS ⟨#[]⟩), (tI 0), (tB false), (tB false), (tB false), (tB false), (tI 0)] :: L) rfl rfl (part_one (one_b _)) Tryd.sizeOf4 rfl rfl rfl rfl ?_)
                                          refine okL_nil ?_
                                          refine okX_next ?_
                                          refine okC_seq ?_
                                          refine okC_region ?_
                                          refine okL_step 100 (tB ((a0 == 11) || (a0 == 12))) rfl rfl (does_move rfl) ?_
                                          refine okL_step 101 (tB ((a0 == 11) || (a0 == 12))) rfl rfl (does_move rfl) ?_
                                          obtain ⟨z47, h49, hz48⟩ := bs h
                                          refine okL_meet (X := Bool) 3 (fun x => z47 = x) (fun x : Bool => [(0, (tI a0)), (2, (pAt g1 0)), (5, (pAt g9 0)), (104, (tB x))]) (fun x : Bool => Item.blk g9 113 [(tS y7), (tI r2), (tB ((((((x23 || (a0 == 7)) || (a0 == 8)) || (a0 == 9)) || (a0 == 33)) || (a0 == 35)) || (a0 == 37))), (tB ((((((x37 || (a0 == 10)) || (a0 == 13)) || (a0 == 14)) || (a0 == 33)) || (a0 == 34)) || (a0 == 36))), (tB false), (tB false), (tI s10)] :: Item.blk g1 113 [(tS ⟨#[]⟩), (tI 0), (tB false), (tB false), (tB false), (tB false), (tI 0)] :: L) _ rfl ?_ ?_
                                          · refine okL_split ((a0 == 11) || (a0 == 12)) (fun hb46 => ?_) (fun hb46 => ?_)
                                            · replace h49 := ct hb46 h49
                                              refine okL_skip 102 101 ((a0 == 11) || (a0 == 12)) rfl rfl hb46 rfl rfl ?_
                                              refine okL_skip 103 101 ((a0 == 11) || (a0 == 12)) rfl rfl hb46 rfl rfl ?_
                                              refine okL_step 104 (tB true) rfl rfl (does_pick_t ((a0 == 11) || (a0 == 12)) rfl hb46 rfl) ?_
                                              refine okL_nil ?_
                                              exact okX_meet (I := _) true (smh h49) (cc rfl (cc rfl (cc rfl (cc rfl cn)))) rfl
                                            · replace h49 := cf hb46 h49
                                              refine okL_guard 102 (tI a0) 101 ((a0 == 11) || (a0 == 12)) rfl rfl hb46 rfl rfl (does_move rfl) ?_
                                              obtain ⟨r51, hc52, h49⟩ := bs h49
                                              refine okL_guard 103 (tB r51) 101 ((a0 == 11) || (a0 == 12)) rfl rfl hb46 rfl rfl (does_call0 (c_ref29_IsBinary a0 r51 hc52) rfl Tryd.call124 rfl) ?_
                                              refine okL_step 104 (tB r51) rfl rfl (does_pick_f ((a0 == 11) || (a0 == 12)) rfl hb46 rfl) ?_
                                              refine okL_nil ?_
                                              exact okX_meet (I := _) r51 (smh h49) (cc rfl (cc rfl (cc rfl (cc rfl cn)))) rfl
                                          · intro x50 hx
                                            obtain rfl : x50 = z47 := hx.symm
                                            replace h := hz48
                                            change OkL _ _ _ _ [(0, (tI a0)), (2, (pAt g1 0)), (5, (pAt g9 0)), (104, (tB x50))] (Item.blk g9 113 [(tS y7), (tI r2), (tB ((((((x23 || (a0 == 7)) || (a0 == 8)) || (a0 == 9)) || (a0 == 33)) || (a0 == 35)) || (a0 == 37))), (tB ((((((x37 || (a0 == 10)) || (a0 == 13)) || (a0 == 14)) || (a0 == 33)) || (a0 == 34)) || (a0 == 36))), (tB false), (tB false), (tI s10)] :: Item.blk g1 113 [(tS ⟨#[]⟩), (tI 0), (tB false), (tB false), (tB false), (tB false), (tI 0)] :: L)
                                            refine okL_step 105 (tB x50) rfl rfl (does_move rfl) ?_
                                            refine okL_meet (X := Bool) 3 (fun x => x = (x50 || (a0 == 10))) (fun x : Bool => [(0, (tI a0)), (2, (pAt g1 0)), (5, (pAt g9 0)), (108, (tB x))]) (fun x : Bool => Item.blk g9 113 [(tS y7), (tI r2), (tB ((((((x23 || (a0 == 7)) || (a0 == 8)) || (a0 == 9)) || (a0 == 33)) || (a0 == 35)) || (a0 == 37))), (tB ((((((x37 || (a0 == 10)) || (a0 == 13)) || (a0 == 14)) || (a0 == 33)) || (a0 == 34)) || (a0 == 36))), (tB false), (tB false), (tI s10)] :: Item.blk g1 113 [(tS ⟨#[]⟩), (tI 0), (tB false), (tB false), (tB false), (tB false), (tI 0)] :: L) _ rfl ?_ ?_
                                            · refine okL_split x50 (fun hb53 => ?_) (fun hb53 => ?_)
                                              · refine okL_skip 106 105 x50 rfl rfl hb53 rfl rfl ?_
                                                refine okL_skip 107 105 x50 rfl rfl hb53 rfl rfl ?_
                                                refine okL_step 108 (tB true) rfl rfl (does_pick_t x50 rfl hb53 rfl) ?_
                                                refine okL_nil ?_
                                                exact okX_meet (I := _) true (or_t hb53) (cc rfl (cc rfl (cc rfl (cc rfl cn)))) rfl
                                              · refine okL_guard 106 (tI a0) 105 x50 rfl rfl hb53 rfl rfl (does_move rfl) ?_
                                                refine okL_guard 107 (tB (a0 == 10)) 105 x50 rfl rfl hb53 rfl rfl (does_eql rfl rfl) ?_
                                                refine okL_step 108 (tB (a0 == 10)) rfl rfl (does_pick_f x50 rfl hb53 rfl) ?_
                                                refine okL_nil ?_
                                                exact okX_meet (I := _) (a0 == 10) (or_f hb53) (cc rfl (cc rfl (cc rfl (cc rfl cn)))) rfl
                                            · intro x66 hx
                                              subst hx
                                              change OkL _ _ _ _ [(0, (tI a0)), (2, (pAt g1 0)), (5, (pAt g9 0)), (108, (tB (x50 || (a0 == 10))))] (Item.blk g9 113 [(tS y7), (tI r2), (tB ((((((x23 || (a0 == 7)) || (a0 == 8)) || (a0 == 9)) || (a0 == 33)) || (a0 == 35)) || (a0 == 37))), (tB ((((((x37 || (a0 == 10)) || (a0 == 13)) || (a0 == 14)) || (a0 == 33)) || (a0 == 34)) || (a0 == 36))), (tB false), (tB false), (tI s10)] :: Item.blk g1 113 [(tS ⟨#[]⟩), (tI 0), (tB false), (tB false), (tB false), (tB false), (tI 0)] :: L)
                                              refine okL_step 109 (tB (x50 || (a0 == 10))) rfl rfl (does_move rfl) ?_
                                              refine okL_meet (X := Bool) 3 (fun x => x = ((x50 || (a0 == 10)) || (a0 == 34))) (fun x : Bool => [(0, (tI a0)), (2, (pAt g1 0)), (5, (pAt g9 0)), (112, (tB x))]) (fun x : Bool => Item.blk g9 113 [(tS y7), (tI r2), (tB ((((((x23 || (a0 == 7)) || (a0 == 8)) || (a0 == 9)) || (a0 == 33)) || (a0 == 35)) || (a0 == 37))), (tB ((((((x37 || (a0 == 10)) || (a0 == 13)) || (a0 == 14)) || (a0 == 33)) || (a0 == 34)) || (a0 == 36))), (tB false), (tB false), (tI s10)] :: Item.blk g1 113 [(tS ⟨#[]⟩), (tI 0), (tB false), (tB false), (tB false), (tB false), (tI 0)] :: L) _ rfl ?_ ?_
                                              · refine okL_split (x50 || (a0 == 10)) (fun hb54 => ?_) (fun hb54 => ?_)
                                                · refine okL_skip 110 109 (x50 || (a0 == 10)) rfl rfl hb54 rfl rfl ?_
                                                  refine okL_skip 111 109 (x50 || (a0 == 10)) rfl rfl hb54 rfl rfl ?_
                                                  refine okL_step 112 (tB true) rfl rfl (does_pick_t (x50 || (a0 == 10)) rfl hb54 rfl) ?_
                                                  refine okL_nil ?_
                                                  exact okX_meet (I := _) true (or_t hb54) (cc rfl (cc rfl (cc rfl (cc rfl cn)))) rfl
                                                · refine okL_guard 110 (tI a0) 109 (x50 || (a0 == 10)) rfl rfl hb54 rfl rfl (does_move rfl) ?_
                                                  refine okL_guard 111 (tB (a0 == 34)) 109 (x50 || (a0 == 10)) rfl rfl hb54 rfl rfl (does_eql rfl rfl) ?_
                                                  refine okL_step 112 (tB (a0 == 34)) rfl rfl (does_pick_f (x50 || (a0 == 10)) rfl hb54 rfl) ?_
                                                  refine okL_nil ?_
                                                  exact okX_meet (I := _) (a0 == 34) (or_f hb54) (cc rfl (cc rfl (cc rfl (cc rfl cn)))) rfl
                                              · intro x65 hx
                                                subst hx
                                                change OkL _ _ _ _ [(0, (tI a0)), (2, (pAt g1 0)), (5, (pAt g9 0)), (112, (tB ((x50 || (a0 == 10)) || (a0 == 34))))] (Item.blk g9 113 [(tS y7), (tI r2), (tB ((((((x23 || (a0 == 7)) || (a0 == 8)) || (a0 == 9)) || (a0 == 33)) || (a0 == 35)) || (a0 == 37))), (tB ((((((x37 || (a0 == 10)) || (a0 == 13)) || (a0 == 14)) || (a0 == 33)) || (a0 == 34)) || (a0 == 36))), (tB false), (tB false), (tI s10)] :: Item.blk g1 113 [(tS ⟨#[]⟩), (tI 0), (tB false), (tB false), (tB false), (tB false), (tI 0)] :: L)
                                                refine okL_step 113 (tB ((x50 || (a0 == 10)) || (a0 == 34))) rfl rfl (does_move rfl) ?_
                                                refine okL_meet (X := Bool) 3 (fun x => x = (((x50 || (a0 == 10)) || (a0 == 34)) || (a0 == 35))) (fun x : Bool => [(0, (tI a0)), (2, (pAt g1 0)), (5, (pAt g9 0)), (116, (tB x))]) (fun x : Bool => Item.blk g9 113 [(tS y7), (tI r2), (tB ((((((x23 || (a0 == 7)) || (a0 == 8)) || (a0 == 9)) || (a0 == 33)) || (a0 == 35)) || (a0 == 37))), (tB ((((((x37 || (a0 == 10)) || (a0 == 13)) || (a0 == 14)) || (a0 == 33)) || (a0 == 34)) || (a0 == 36))), (tB false), (tB false), (tI s10)] :: Item.blk g1 113 [(tS ⟨#[]⟩), (tI 0), (tB false), (tB false), (tB false), (tB false), (tI 0)] :: L) _ rfl ?_ ?_
                                                · refine okL_split ((x50 || (a0 == 10)) || (a0 == 34)) (fun hb55 => ?_) (fun hb55 => ?_)
                                                  · refine okL_skip 114 113 ((x50 || (a0 == 10)) || (a0 == 34)) rfl rfl hb55 rfl rfl ?_
                                                    refine okL_skip 115 113 ((x50 || (a0 == 10)) || (a0 == 34)) rfl rfl hb55 rfl rfl ?_
                                                    refine okL_step 116 (tB true) rfl rfl (does_pick_t ((x50 || (a0 == 10)) || (a0 == 34)) rfl hb55 rfl) ?_
                                                    refine okL_nil ?_
                                                    exact okX_meet (I := _) true (or_t hb55) (cc rfl (cc rfl (cc rfl (cc rfl cn)))) rfl
                                                  · refine okL_guard 114 (tI a0) 113 ((x50 || (a0 == 10)) || (a0 == 34)) rfl rfl hb55 rfl rfl (does_move rfl) ?_
                                                    refine okL_guard 115 (tB (a0 == 35)) 113 ((x50 || (a0 == 10)) || (a0 == 34)) rfl rfl hb55 rfl rfl (does_eql rfl rfl) ?_
                                                    refine okL_step 116 (tB (a0 == 35)) rfl rfl (does_pick_f ((x50 || (a0 == 10)) || (a0 == 34)) rfl hb55 rfl) ?_
                                                    refine okL_nil ?_
                                                    exact okX_meet (I := _) (a0 == 35) (or_f hb55) (cc rfl (cc rfl (cc rfl (cc rfl cn)))) rfl
                                                · intro x64 hx
                                                  subst hx
                                                  change OkL _ _ _ _ [(0, (tI a0)), (2, (pAt g1 0)), (5, (pAt g9 0)), (116, (tB (((x50 || (a0 == 10)) || (a0 == 34)) || (a0 == 35))))] (Item.blk g9 113 [(tS y7), (tI r2), (tB ((((((x23 || (a0 == 7)) || (a0 == 8)) || (a0 == 9)) || (a0 == 33)) || (a0 == 35)) || (a0 == 37))), (tB ((((((x37 || (a0 == 10)) || (a0 == 13)) || (a0 == 14)) || (a0 == 33)) || (a0 == 34)) || (a0 == 36))), (tB false), (tB false), (tI s10)] :: Item.blk g1 113 [(tS ⟨#[]⟩), (tI 0), (tB false), (tB false), (tB false), (tB false), (tI 0)] :: L)
                                                  refine okL_step 117 (pAt g9 4) rfl rfl (does_fieldAddrP 4 Tryd.underlying113 rfl Tryd.sizeOf4 rfl rfl) ?_
                                                  refine okL_stepU rfl (doesO_storeB (ps := [(tB (((x50 || (a0 == 10)) || (a0 == 34)) || (a0 == 35)))]) 0 [(tS y7), (tI r2), (tB ((((((x23 || (a0 == 7)) || (a0 == 8)) || (a0 == 9)) || (a0 == 33)) || (a0 == 35)) || (a0 == 37))), (tB ((((((x37 || (a0 == 10)) || (a0 == 13)) || (a0 == 14)) || (a0 == 33)) || (a0 == 34)) || (a0 == 36))), (tB (((x50 || (a0 == 10)) || (a0 == 34)) || (a0 == 35))), (tB false), (tI s10)] (Item.blk g9 113 [(tS y7), (tI r2), (tB ((((((x23 || (a0 == 7)) || (a0 == 8)) || (a0 == 9)) || (a0 == 33)) || (a0 == 35)) || (a0 == 37))), (tB ((((((x37 || (a0 == 10)) || (a0 == 13)) || (a0 == 14)) || (a0 == 33)) || (a0 == 34)) || (a0 == 36))), (tB (((x50 || (a0 == 10)) || (a0 == 34)) || (a0 == 35))), (tB false), (tI s10)] :: Item.blk g1 113 [(tS ⟨#[]⟩), (tI 0), (tB false), (tB false), (tB false), (tB false), (tI 0)] :: L) rfl rfl (part_one (one_b _)) Tryd.sizeOf4 rfl rfl rfl rfl ?_)
                                                  refine okL_nil ?_
                                                  refine okX_next ?_
                                                  refine okC_seq ?_
                                                  refine okC_region ?_
                                                  refine okL_step 118 (tI a0) rfl rfl (does_move rfl) ?_
                                                  refine okL_step 119 (tB (a0 == 4)) rfl rfl (does_eql rfl rfl) ?_
                                                  refine okL_step 120 (tB (a0 == 4)) rfl rfl (does_move rfl) ?_
                                                  refine okL_meet (X := Bool) 3 (fun x => x = ((a0 == 4) || (a0 == 20))) (fun x : Bool => [(0, (tI a0)), (2, (pAt g1 0)), (5, (pAt g9 0)), (123, (tB x))]) (fun x : Bool => Item.blk g9 113 [(tS y7), (tI r2), (tB ((((((x23 || (a0 == 7)) || (a0 == 8)) || (a0 == 9)) || (a0 == 33)) || (a0 == 35)) || (a0 == 37))), (tB ((((((x37 || (a0 == 10)) || (a0 == 13)) || (a0 == 14)) || (a0 == 33)) || (a0 == 34)) || (a0 == 36))), (tB (((x50 || (a0 == 10)) || (a0 == 34)) || (a0 == 35))), (tB false), (tI s10)] :: Item.blk g1 113 [(tS ⟨#[]⟩), (tI 0), (tB false), (tB false), (tB false), (tB false), (tI 0)] :: L) _ rfl ?_ ?_
                                                  · refine okL_split (a0 == 4) (fun hb56 => ?_) (fun hb56 => ?_)
                                                    · refine okL_skip 121 120 (a0 == 4) rfl rfl hb56 rfl rfl ?_
                                                      refine okL_skip 122 120 (a0 == 4) rfl rfl hb56 rfl rfl ?_
                                                      refine okL_step 123 (tB true) rfl rfl (does_pick_t (a0 == 4) rfl hb56 rfl) ?_
                                                      refine okL_nil ?_
                                                      exact okX_meet (I := _) true (or_t hb56) (cc rfl (cc rfl (cc rfl (cc rfl cn)))) rfl
                                                    · refine okL_guard 121 (tI a0) 120 (a0 == 4) rfl rfl hb56 rfl rfl (does_move rfl) ?_
                                                      refine okL_guard 122 (tB (a0 == 20)) 120 (a0 == 4) rfl rfl hb56 rfl rfl (does_eql rfl rfl) ?_
                                                      refine okL_step 123 (tB (a0 == 20)) rfl rfl (does_pick_f (a0 == 4) rfl hb56 rfl) ?_
                                                      refine okL_nil ?_
                                                      exact okX_meet (I := _) (a0 == 20) (or_f hb56) (cc rfl (cc rfl (cc rfl (cc rfl cn)))) rfl
                                                  · intro x63 hx
                                                    subst hx
                                                    change OkL _ _ _ _ [(0, (tI a0)), (2, (pAt g1 0)), (5, (pAt g9 0)), (123, (tB ((a0 == 4) || (a0 == 20))))] (Item.blk g9 113 [(tS y7), (tI r2), (tB ((((((x23 || (a0 == 7)) || (a0 == 8)) || (a0 == 9)) || (a0 == 33)) || (a0 == 35)) || (a0 == 37))), (tB ((((((x37 || (a0 == 10)) || (a0 == 13)) || (a0 == 14)) || (a0 == 33)) || (a0 == 34)) || (a0 == 36))), (tB (((x50 || (a0 == 10)) || (a0 == 34)) || (a0 == 35))), (tB false), (tI s10)] :: Item.blk g1 113 [(tS ⟨#[]⟩), (tI 0), (tB false), (tB false), (tB false), (tB false), (tI 0)] :: L)
                                                    refine okL_step 124 (tB ((a0 == 4) || (a0 == 20))) rfl rfl (does_move rfl) ?_
                                                    refine okL_meet (X := Bool) 3 (fun x => x = (((a0 == 4) || (a0 == 20)) || (a0 == 21))) (fun x : Bool => [(0, (tI a0)), (2, (pAt g1 0)), (5, (pAt g9 0)), (127, (tB x))]) (fun x : Bool => Item.blk g9 113 [(tS y7), (tI r2), (tB ((((((x23 || (a0 == 7)) || (a0 == 8)) || (a0 == 9)) || (a0 == 33)) || (a0 == 35)) || (a0 == 37))), (tB ((((((x37 || (a0 == 10)) || (a0 == 13)) || (a0 == 14)) || (a0 == 33)) || (a0 == 34)) || (a0 == 36))), (tB (((x50 || (a0 == 10)) || (a0 == 34)) || (a0 == 35))), (tB false), (tI s10)] :: Item.blk g1 113 [(tS ⟨#[]⟩), (tI 0), (tB false), (tB false), (tB false), (tB false), (tI 0)] :: L) _ rfl ?_ ?_
                                                    · refine okL_split ((a0 == 4) || (a0 == 20)) (fun hb57 => ?_) (fun hb57 => ?_)
                                                      · refine okL_skip 125 124 ((a0 == 4) || (a0 == 20)) rfl rfl hb57 rfl rfl ?_
                                                        refine okL_skip 126 124 ((a0 == 4) || (a0 == 20)) rfl rfl hb57 rfl rfl ?_
                                                        refine okL_step 127 (tB true) rfl rfl (does_pick_t ((a0 == 4) || (a0 == 20)) rfl hb57 rfl) ?_
                                                        refine okL_nil ?_
                                                        exact okX_meet (I := _) true (or_t hb57) (cc rfl (cc rfl (cc rfl (cc rfl cn)))) rfl
                                                      · refine okL_guard 125 (tI a0) 124 ((a0 == 4) || (a0 == 20)) rfl rfl hb57 rfl rfl (does_move rfl) ?_
                                                        refine okL_guard 126 (tB (a0 == 21)) 124 ((a0 == 4) || (a0 == 20)) rfl rfl hb57 rfl rfl (does_eql rfl rfl) ?_
                                                        refine okL_step 127 (tB (a0 == 21)) rfl rfl (does_pick_f ((a0 == 4) || (a0 == 20)) rfl hb57 rfl) ?_
                                                        refine okL_nil ?_
                                                        exact okX_meet (I := _) (a0 == 21) (or_f hb57) (cc rfl (cc rfl (cc rfl (cc rfl cn)))) rfl
                                                    · intro x62 hx
                                                      subst hx
                                                      change OkL _ _ _ _ [(0, (tI a0)), (2, (pAt g1 0)), (5, (pAt g9 0)), (127, (tB (((a0 == 4) || (a0 == 20)) || (a0 == 21))))] (Item.blk g9 113 [(tS y7), (tI r2), (tB ((((((x23 || (a0 == 7)) || (a0 == 8)) || (a0 == 9)) || (a0 == 33)) || (a0 == 35)) || (a0 == 37))), (tB ((((((x37 || (a0 == 10)) || (a0 == 13)) || (a0 == 14)) || (a0 == 33)) || (a0 == 34)) || (a0 == 36))), (tB (((x50 || (a0 == 10)) || (a0 == 34)) || (a0 == 35))), (tB false), (tI s10)] :: Item.blk g1 113 [(tS ⟨#[]⟩), (tI 0), (tB false), (tB false), (tB false), (tB false), (tI 0)] :: L)
                                                      refine okL_step 128 (tB (((a0 == 4) || (a0 == 20)) || (a0 == 21))) rfl rfl (does_move rfl) ?_
                                                      refine okL_meet (X := Bool) 3 (fun x => x = ((((a0 == 4) || (a0 == 20)) || (a0 == 21)) || (a0 == 34))) (fun x : Bool => [(0, (tI a0)), (2, (pAt g1 0)), (5, (pAt g9 0)), (131, (tB x))]) (fun x : Bool => Item.blk g9 113 [(tS y7), (tI r2), (tB ((((((x23 || (a0 == 7)) || (a0 == 8)) || (a0 == 9)) || (a0 == 33)) || (a0 == 35)) || (a0 == 37))), (tB ((((((x37 || (a0 == 10)) || (a0 == 13)) || (a0 == 14)) || (a0 == 33)) || (a0 == 34)) || (a0 == 36))), (tB (((x50 || (a0 == 10)) || (a0 == 34)) || (a0 == 35))), (tB false), (tI s10)] :: Item.blk g1 113 [(tS ⟨#[]⟩), (tI 0), (tB false), (tB false), (tB false), (tB false), (tI 0)] :: L) _ rfl ?_ ?_
                                                      · refine okL_split (((a0 == 4) || (a0 == 20)) || (a0 == 21)) (fun hb58 => ?_) (fun hb58 => ?_)
                                                        · refine okL_skip 129 128 (((a0 == 4) || (a0 == 20)) || (a0 == 21)) rfl rfl hb58 rfl rfl ?_
                                                          refine okL_skip 130 128 (((a0 == 4) || (a0 == 20)) || (a0 == 21)) rfl rfl hb58 rfl rfl ?_
                                                          refine okL_step 131 (tB true) rfl rfl (does_pick_t (((a0 == 4) || (a0 == 20)) || (a0 == 21)) rfl hb58 rfl) ?_
                                                          refine okL_nil ?_
                                                          exact okX_meet (I := _) true (or_t hb58) (cc rfl (cc rfl (cc rfl (cc rfl cn)))) rfl
                                                        · refine okL_guard 129 (tI a0) 128 (((a0 == 4) || (a0 == 20)) || (a0 == 21)) rfl rfl hb58 rfl rfl (does_move rfl) ?_
                                                          refine okL_guard 130 (tB (a0 == 34)) 128 (((a0 == 4) || (a0 == 20)) || (a0 == 21)) rfl rfl hb58 rfl rfl (does_eql rfl rfl) ?_
                                                          refine okL_step 131 (tB (a0 == 34)) rfl rfl (does_pick_f (((a0 == 4) || (a0 == 20)) || (a0 == 21)) rfl hb58 rfl) ?_
                                                          refine okL_nil ?_
                                                          exact okX_meet (I := _) (a0 == 34) (or_f hb58) (cc rfl (cc rfl (cc rfl (cc rfl cn)))) rfl
                                                      · intro x61 hx
                                                        subst hx
                                                        change OkL _ _ _ _ [(0, (tI a0)), (2, (pAt g1 0)), (5, (pAt g9 0)), (131, (tB ((((a0 == 4) || (a0 == 20)) || (a0 == 21)) || (a0 == 34))))] (Item.blk g9 113 [(tS y7), (tI r2), (tB ((((((x23 || (a0 == 7)) || (a0 == 8)) || (a0 == 9)) || (a0 == 33)) || (a0 == 35)) || (a0 == 37))), (tB ((((((x37 || (a0 == 10)) || (a0 == 13)) || (a0 == 14)) || (a0 == 33)) || (a0 == 34)) || (a0 == 36))), (tB (((x50 || (a0 == 10)) || (a0 == 34)) || (a0 == 35))), (tB false), (tI s10)] :: Item.blk g1 113 [(tS ⟨#[]⟩), (tI 0), (tB false), (tB false), (tB false), (tB false), (tI 0)] :: L)
                                                        refine okL_step 132 (tB ((((a0 == 4) || (a0 == 20)) || (a0 == 21)) || (a0 == 34))) rfl rfl (does_move rfl) ?_
                                                        refine okL_meet (X := Bool) 3 (fun x => x = (((((a0 == 4) || (a0 == 20)) || (a0 == 21)) || (a0 == 34)) || (a0 == 35))) (fun x : Bool => [(2, (pAt g1 0)), (5, (pAt g9 0)), (135, (tB x))]) (fun x : Bool => Item.blk g9 113 [(tS y7), (tI r2), (tB ((((((x23 || (a0 == 7)) || (a0 == 8)) || (a0 == 9)) || (a0 == 33)) || (a0 == 35)) || (a0 == 37))), (tB ((((((x37 || (a0 == 10)) || (a0 == 13)) || (a0 == 14)) || (a0 == 33)) || (a0 == 34)) || (a0 == 36))), (tB (((x50 || (a0 == 10)) || (a0 == 34)) || (a0 == 35))), (tB false), (tI s10)] :: Item.blk g1 113 [(tS ⟨#[]⟩), (tI 0), (tB false), (tB false), (tB false), (tB false), (tI 0)] :: L) _ rfl ?_ ?_
                                                        · refine okL_split ((((a0 == 4) || (a0 == 20)) || (a0 == 21)) || (a0 == 34)) (fun hb59 => ?_) (fun hb59 => ?_)
                                                          · refine okL_skip 133 132 ((((a0 == 4) || (a0 == 20)) || (a0 == 21)) || (a0 == 34)) rfl rfl hb59 rfl rfl ?_
                                                            refine okL_skip 134 132 ((((a0 == 4) || (a0 == 20)) || (a0 == 21)) || (a0 == 34)) rfl rfl hb59 rfl rfl ?_
                                                            refine okL_step 135 (tB true) rfl rfl (does_pick_t ((((a0 == 4) || (a0 == 20)) || (a0 == 21)) || (a0 == 34)) rfl hb59 rfl) ?_
                                                            refine okL_nil ?_
                                                            exact okX_meet (I := _) true (or_t hb59) (cc rfl (cc rfl (cc rfl cn))) rfl
                                                          · refine okL_guard 133 (tI a0) 132 ((((a0 == 4) || (a0 == 20)) || (a0 == 21)) || (a0 == 34)) rfl rfl hb59 rfl rfl (does_move rfl) ?_
                                                            refine okL_guard 134 (tB (a0 == 35)) 132 ((((a0 == 4) || (a0 == 20)) || (a0 == 21)) || (a0 == 34)) rfl rfl hb59 rfl rfl (does_eql rfl rfl) ?_
                                                            refine okL_step 135 (tB (a0 == 35)) rfl rfl (does_pick_f ((((a0 == 4) || (a0 == 20)) || (a0 == 21)) || (a0 == 34)) rfl hb59 rfl) ?_
                                                            refine okL_nil ?_
                                                            exact okX_meet (I := _) (a0 == 35) (or_f hb59) (cc rfl (cc rfl (cc rfl cn))) rfl
                                                        · intro x60 hx
                                                          subst hx
                                                          change OkL _ _ _ _ [(2, (pAt g1 0)), (5, (pAt g9 0)), (135, (tB (((((a0 == 4) || (a0 == 20)) || (a0 == 21)) || (a0 == 34)) || (a0 == 35))))] (Item.blk g9 113 [(tS y7), (tI r2), (tB ((((((x23 || (a0 == 7)) || (a0 == 8)) || (a0 == 9)) || (a0 == 33)) || (a0 == 35)) || (a0 == 37))), (tB ((((((x37 || (a0 == 10)) || (a0 == 13)) || (a0 == 14)) || (a0 == 33)) || (a0 == 34)) || (a0 == 36))), (tB (((x50 || (a0 == 10)) || (a0 == 34)) || (a0 == 35))), (tB false), (tI s10)] :: Item.blk g1 113 [(tS ⟨#[]⟩), (tI 0), (tB false), (tB false), (tB false), (tB false), (tI 0)] :: L)
                                                          refine okL_step 136 (pAt g9 5) rfl rfl (does_fieldAddrP 5 Tryd.underlying113 rfl Tryd.sizeOf4 rfl rfl) ?_
                                                          refine okL_stepU rfl (doesO_storeB (ps := [(tB (((((a0 == 4) || (a0 == 20)) || (a0 == 21)) || (a0 == 34)) || (a0 == 35)))]) 0 [(tS y7), (tI r2), (tB ((((((x23 || (a0 == 7)) || (a0 == 8)) || (a0 == 9)) || (a0 == 33)) || (a0 == 35)) || (a0 == 37))), (tB ((((((x37 || (a0 == 10)) || (a0 == 13)) || (a0 == 14)) || (a0 == 33)) || (a0 == 34)) || (a0 == 36))), (tB (((x50 || (a0 == 10)) || (a0 == 34)) || (a0 == 35))), (tB (((((a0 == 4) || (a0 == 20)) || (a0 == 21)) || (a0 == 34)) || (a0 == 35))), (tI s10)] (Item.blk g9 113 [(tS y7), (tI r2), (tB ((((((x23 || (a0 == 7)) || (a0 == 8)) || (a0 == 9)) || (a0 == 33)) || (a0 == 35)) || (a0 == 37))), (tB ((((((x37 || (a0 == 10)) || (a0 == 13)) || (a0 == 14)) || (a0 == 33)) || (a0 == 34)) || (a0 == 36))), (tB (((x50 || (a0 == 10)) || (a0 == 34)) || (a0 == 35))), (tB (((((a0 == 4) || (a0 == 20)) || (a0 == 21)) || (a0 == 34)) || (a0 == 35))), (tI s10)] :: Item.blk g1 113 [(tS ⟨#[]⟩), (tI 0), (tB false), (tB false), (tB false), (tB false), (tI 0)] :: L) rfl rfl (part_one (one_b _)) Tryd.sizeOf4 rfl rfl rfl rfl ?_)
                                                          refine okL_nil ?_
                                                          refine okX_next ?_
                                                          refine okC_seq ?_
                                                          refine okC_region ?_
                                                          refine okL_step 137 (Ty.agg [(tS y7), (tI r2), (tB ((((((x23 || (a0 == 7)) || (a0 == 8)) || (a0 == 9)) || (a0 == 33)) || (a0 == 35)) || (a0 == 37))), (tB ((((((x37 || (a0 == 10)) || (a0 == 13)) || (a0 == 14)) || (a0 == 33)) || (a0 == 34)) || (a0 == 36))), (tB (((x50 || (a0 == 10)) || (a0 == 34)) || (a0 == 35))), (tB (((((a0 == 4) || (a0 == 20)) || (a0 == 21)) || (a0 == 34)) || (a0 == 35))), (tI s10)]) rfl rfl (does_loadBA [(tS y7), (tI r2), (tB ((((((x23 || (a0 == 7)) || (a0 == 8)) || (a0 == 9)) || (a0 == 33)) || (a0 == 35)) || (a0 == 37))), (tB ((((((x37 || (a0 == 10)) || (a0 == 13)) || (a0 == 14)) || (a0 == 33)) || (a0 == 34)) || (a0 == 36))), (tB (((x50 || (a0 == 10)) || (a0 == 34)) || (a0 == 35))), (tB (((((a0 == 4) || (a0 == 20)) || (a0 == 21)) || (a0 == 34)) || (a0 == 35))), (tI s10)] Tryd.isAgg113 Tryd.sizeOf113 rfl 0 rfl rfl rfl) ?_
                                                          refine okL_stepU rfl (doesO_storeB (ps := [(tS y7), (tI r2), (tB ((((((x23 || (a0 == 7)) || (a0 == 8)) || (a0 == 9)) || (a0 == 33)) || (a0 == 35)) || (a0 == 37))), (tB ((((((x37 || (a0 == 10)) || (a0 == 13)) || (a0 == 14)) || (a0 == 33)) || (a0 == 34)) || (a0 == 36))), (tB (((x50 || (a0 == 10)) || (a0 == 34)) || (a0 == 35))), (tB (((((a0 == 4) || (a0 == 20)) || (a0 == 21)) || (a0 == 34)) || (a0 == 35))), (tI s10)]) 1 [(tS y7), (tI r2), (tB ((((((x23 || (a0 == 7)) || (a0 == 8)) || (a0 == 9)) || (a0 == 33)) || (a0 == 35)) || (a0 == 37))), (tB ((((((x37 || (a0 == 10)) || (a0 == 13)) || (a0 == 14)) || (a0 == 33)) || (a0 == 34)) || (a0 == 36))), (tB (((x50 || (a0 == 10)) || (a0 == 34)) || (a0 == 35))), (tB (((((a0 == 4) || (a0 == 20)) || (a0 == 21)) || (a0 == 34)) || (a0 == 35))), (tI s10)] (Item.blk g9 113 [(tS y7), (tI r2), (tB ((((((x23 || (a0 == 7)) || (a0 == 8)) || (a0 == 9)) || (a0 == 33)) || (a0 == 35)) || (a0 == 37))), (tB ((((((x37 || (a0 == 10)) || (a0 == 13)) || (a0 == 14)) || (a0 == 33)) || (a0 == 34)) || (a0 == 36))), (tB (((x50 || (a0 == 10)) || (a0 == 34)) || (a0 == 35))), (tB (((((a0 == 4) || (a0 == 20)) || (a0 == 21)) || (a0 == 34)) || (a0 == 35))), (tI s10)] :: Item.blk g1 113 [(tS y7), (tI r2), (tB ((((((x23 || (a0 == 7)) || (a0 == 8)) || (a0 == 9)) || (a0 == 33)) || (a0 == 35)) || (a0 == 37))), (tB ((((((x37 || (a0 == 10)) || (a0 == 13)) || (a0 == 14)) || (a0 == 33)) || (a0 == 34)) || (a0 == 36))), (tB (((x50 || (a0 == 10)) || (a0 == 34)) || (a0 == 35))), (tB (((((a0 == 4) || (a0 == 20)) || (a0 == 21)) || (a0 == 34)) || (a0 == 35))), (tI s10)] :: L) rfl rfl (part_agg _) Tryd.sizeOf113 rfl rfl rfl rfl ?_)
                                                          refine okL_step 3 (tB true) rfl rfl (does_assign rfl) ?_
                                                          refine okL_nil ?_
                                                          refine okX_next ?_
                                                          refine okC_ret ?_
                                                          obtain rfl := (smh h).symm
                                                          exact okX_retCT () Tryd.results99 rfl rfl 1 rfl Tryd.isAgg113 Tryd.sizeOf113 rfl rfl [Item.blk g9 113 [(tS y7), (tI r2), (tB ((((((x23 || (a0 == 7)) || (a0 == 8)) || (a0 == 9)) || (a0 == 33)) || (a0 == 35)) || (a0 == 37))), (tB ((((((x37 || (a0 == 10)) || (a0 == 13)) || (a0 == 14)) || (a0 == 33)) || (a0 == 34)) || (a0 == 36))), (tB (((x50 || (a0 == 10)) || (a0 == 34)) || (a0 == 35))), (tB (((((a0 == 4) || (a0 == 20)) || (a0 == 21)) || (a0 == 34)) || (a0 == 35))), (tI s10)], Item.blk g1 113 [(tS y7), (tI r2), (tB ((((((x23 || (a0 == 7)) || (a0 == 8)) || (a0 == 9)) || (a0 == 33)) || (a0 == 35)) || (a0 == 37))), (tB ((((((x37 || (a0 == 10)) || (a0 == 13)) || (a0 == 14)) || (a0 == 33)) || (a0 == 34)) || (a0 == 36))), (tB (((x50 || (a0 == 10)) || (a0 == 34)) || (a0 == 35))), (tB (((((a0 == 4) || (a0 == 20)) || (a0 == 21)) || (a0 == 34)) || (a0 == 35))), (tI s10)]] (pm 0 rfl (pm 0 rfl (pr _)))

def ref32_info  (a0 : Int) : Option OpInfo :=
  (cnd (a0 == 38) (some (⟨⟨#[]⟩, 5, false, true, false, false, 0⟩ : OpInfo)) (Option.bind (ref29_Info a0) (fun r3 => (some r3.1))))

def ref32_validInstr_l1 (K : Nat) (a0 : VInstr) (a1 : VFunc) : Nat → Int → Option (Unit ⊕ Bool)
  | 0, _ => none
  | k + 1, s16 => (cnd (decide (s16 < ((a0.Args).length : Int))) (Option.bind (Option.bind (idx a0.Args s16) (fun y24 => (cnd (decide (y24 < 0)) (some true) (Option.bind (idx a0.Args s16) (fun y27 => (some (decide (y27 ≥ a1.Regs)))))))) (fun s19 => (cnd s19 (out (some false)) (ref32_validInstr_l1 K a0 a1 k (w64 (s16 + 1)))))) (inn ()))

def ref32_validInstr (K : Nat) (a0 : VInstr) (a1 : VFunc) : Option Bool :=
  (Option.bind (ref32_allowed a0.Instr.Op) (fun r4 => (cnd (((!r4) || ((a0.Instr.Op != 6) && (decide (((a0.Args).length : Int) > 0)))) || (decide (((a0.Args).length : Int) > 6))) (some false) (sq (ref32_validInstr_l1 K a0 a1 K 0) (fun s11 => (Option.bind (ref32_info a0.Instr.Op) (fun r30 => (Option.bind (ref32_validOperand (r30.Form != 1) a0.Instr.A a1.Regs) (fun r34 => (Option.bind (cnd (!r34) (some true) (Option.bind (ref32_validOperand (((r30.Form == 3) || (r30.Form == 4)) || (r30.Form == 7)) a0.Instr.B a1.Regs) (fun r41 => (some (!r41))))) (fun x40 => (Option.bind (cnd x40 (some true) (Option.bind (ref32_validOperand (r30.Form == 4) a0.Instr.C a1.Regs) (fun r48 => (some (!r48))))) (fun x47 => (cnd x47 (some false) (cnd (a0.Instr.Op == 13) (some true) (cnd (a0.Instr.Op == 33) (some ((decide (a0.Instr.N ≥ (-4194304))) && (decide (a0.Instr.N < 4194304)))) (cnd (a0.Instr.Op == 6) (some ((decide (a0.Instr.N ≥ 0)) && (decide (a0.Instr.N < 8)))) (Option.bind (cnd (a0.Instr.Op == 34) (some (a0.Instr.Op == 34)) (some (a0.Instr.Op == 35))) (fun s58 => (cnd s58 (some ((decide (a0.Instr.N ≥ 0)) && (decide (a0.Instr.N < 4)))) (cnd (a0.Instr.Op == 38) (some ((decide (a0.Instr.N ≥ 0)) && (decide (a0.Instr.N < a1.Params)))) (some (a0.Instr.N == 0)))))))))))))))))))))))

def ref32_Writes  (a0 : VInstr) : Option (List Int) :=
  (Option.bind (ref32_allowed a0.Instr.Op) (fun r2 => (Option.bind (cnd r2 (Option.bind (ref32_info a0.Instr.Op) (fun r9 => (some (r9.WritesA || (a0.Instr.Op == 6))))) (some false)) (fun x8 => (cnd x8 (some ([a0.Instr.A] : List Int)) (some ([] : List Int)))))))

def ref32_Reads_l1 (K : Nat) (a0 : VInstr) : Nat → ((List Int) × Int) → Option (List Int)
  | 0, _ => none
  | k + 1, s37 => (cnd ((decide (s37.2 < ((a0.Args).length : Int))) && (a0.Instr.Op == 6)) (Option.bind (idx a0.Args s37.2) (fun y41 => (Option.bind (ref29_Insert K s37.1 y41) (fun r43 => (ref32_Reads_l1 K a0 k (r43, (w64 (s37.2 + 1)))))))) (some s37.1))

def ref32_Reads (K : Nat) (a0 : VInstr) : Option (List Int) :=
  (Option.bind (ref32_allowed a0.Instr.Op) (fun r2 => (cnd (!r2) (some ([] : List Int)) (Option.bind (ref32_info a0.Instr.Op) (fun r5 => (Option.bind (cnd r5.ReadsA (Option.bind (ref29_Insert K ([] : List Int) a0.Instr.A) (fun r14 => (some r14))) (some ([] : List Int))) (fun s8 => (Option.bind (cnd r5.ReadsB (Option.bind (ref29_Insert K s8 a0.Instr.B) (fun r22 => (some r22))) (some s8)) (fun s16 => (Option.bind (cnd (r5.Form == 4) (Option.bind (ref29_Insert K s16 a0.Instr.C) (fun r30 => (some r30))) (some s16)) (fun s24 => (Option.bind (ref32_Reads_l1 K a0 K (s24, 0)) (fun s32 => (some s32))))))))))))))

def ref32_Valid_l2 (K : Nat) (a0 : VFunc) (y16 : Block) : Nat → Int → Option (Unit ⊕ (Unit ⊕ Bool))
  | 0, _ => none
  | k + 1, s27 => (cnd (decide (s27 < ((y16.Instrs).length : Int))) (Option.bind (idx y16.Instrs s27) (fun y30 => (Option.bind (ref32_validInstr K y30 a0) (fun r32 => (cnd (!r32) (out (out (some false))) (ref32_Valid_l2 K a0 y16 k (w64 (s27 + 1)))))))) (inn ()))

def ref32_Valid_l1 (K : Nat) (a0 : VFunc) : Nat → Int → Option (Unit ⊕ Bool)
  | 0, _ => none
  | k + 1, s13 => (cnd (decide (s13 < ((a0.Blocks).length : Int))) (Option.bind (idx a0.Blocks s13) (fun y16 => (Option.bind (ref32_validEnd y16 a0) (fun r19 => (cnd (!r19) (out (some false)) (sq (ref32_Valid_l2 K a0 y16 K 0) (fun s22 => (ref32_Valid_l1 K a0 k (w64 (s13 + 1)))))))))) (inn ()))

def ref32_Valid (K : Nat) (a0 : VFunc) : Option Bool :=
  (cnd ((((((decide (a0.Params < 0)) || (decide (a0.Params > 6))) || (decide (a0.Regs < 0))) || (decide (a0.Regs > 3000))) || (decide (((a0.Blocks).length : Int) < 1))) || (decide (((a0.Blocks).length : Int) > 1000))) (some false) (sq (ref32_Valid_l1 K a0 K 0) (fun s8 => (some true))))

def ref32_livePoints_l1 (K : Nat) (a0 : Block) : Nat → (Int × (List (List Int))) → Option (List (List Int))
  | 0, _ => none
  | k + 1, s16 => (cnd (decide (s16.1 ≥ 0)) (Option.bind (idx s16.2 (w64 (s16.1 + 1))) (fun y19 => (Option.bind (idx a0.Instrs s16.1) (fun y21 => (Option.bind (ref32_Writes y21) (fun r23 => (Option.bind (ref32_Minus K y19 r23) (fun r25 => (Option.bind (idx a0.Instrs s16.1) (fun y27 => (Option.bind (ref32_Reads K y27) (fun r29 => (Option.bind (ref32_Union K r25 r29) (fun r31 => (Option.bind (idx s16.2 s16.1) (fun y33 => (ref32_livePoints_l1 K a0 k ((w64 (s16.1 - 1)), (s16.2.set s16.1.toNat r31))))))))))))))))))) (some s16.2))

def ref32_livePoints (K : Nat) (a0 : Block) (a1 : (List Int)) : Option (List (List Int)) :=
  (Option.bind (mk 24 (w64 (((a0.Instrs).length : Int) + 1)) ([] : List Int)) (fun l2 => (Option.bind (ref32_endReads a0) (fun r5 => (Option.bind (ref32_Union K a1 r5) (fun r7 => (Option.bind (idx l2 ((a0.Instrs).length : Int)) (fun y9 => (Option.bind (ref32_livePoints_l1 K a0 K ((w64 (((a0.Instrs).length : Int) - 1)), (l2.set ((a0.Instrs).length : Int).toNat r7))) (fun s11 => (some s11)))))))))))

def keep2_VInstr_l1 (K : Nat) (a1 : VFunc) : Nat → (Int × Int × (List Int)) → Option (Int × (List Int))
  | 0, _ => none
  | k + 1, s78 => (cnd (decide (s78.1 > 0)) (Option.bind (keep2_Digits_Next (⟨s78.2.1⟩ : Fullingkeep2Digits) a1.Regs) (fun r81 => (Option.bind (app 8 s78.2.2 ([r81.1] : List Int)) (fun l83 => (keep2_VInstr_l1 K a1 k ((w64 (s78.1 - 1)), r81.2.N, l83)))))) (some (s78.2.1, s78.2.2)))

def keep2_VInstr (K : Nat) (a0 : Int) (a1 : VFunc) : Option VInstr :=
  (Option.bind (keep2_Digits_Next (⟨a0⟩ : Fullingkeep2Digits) 18) (fun r4 => (Option.bind (Option.bind (keep2_Digits_Next r4.2 24) (fun r11 => (cnd (decide (r11.1 < ((([3, 6, 9, 10, 11, 12, 13, 33, 34, 35, 10, 9] : List Int)).length : Int))) (Option.bind (idx ([3, 6, 9, 10, 11, 12, 13, 33, 34, 35, 10, 9] : List Int) r11.1) (fun y14 => (some (y14, r11.2.N)))) (some ((w64 (15 + r4.1)), r11.2.N))))) (fun s6 => (Option.bind (ref29_Info s6.1) (fun r17 => (Option.bind (cnd (r17.1.Form != 1) (Option.bind (keep2_Digits_Next (⟨s6.2⟩ : Fullingkeep2Digits) a1.Regs) (fun r26 => (some (r26.1, r26.2.N)))) (some (0, s6.2))) (fun s20 => (Option.bind (cnd (((r17.1.Form == 3) || (r17.1.Form == 4)) || (r17.1.Form == 7)) (Option.bind (keep2_Digits_Next (⟨s20.2⟩ : Fullingkeep2Digits) a1.Regs) (fun r36 => (some (r36.1, r36.2.N)))) (some (0, s20.2))) (fun s28 => (Option.bind (cnd (r17.1.Form == 4) (Option.bind (keep2_Digits_Next (⟨s28.2⟩ : Fullingkeep2Digits) a1.Regs) (fun r46 => (some (r46.1, r46.2.N)))) (some (0, s28.2))) (fun s40 => (Option.bind (cnd (s6.1 == 13) (Option.bind (keep2_Digits_Next (⟨s40.2⟩ : Fullingkeep2Digits) 400) (fun r54 => (Option.bind (keep_Word r54.1 a0) (fun r56 => (some (([] : List Int), r56, r54.2.N)))))) (cnd (s6.1 == 33) (Option.bind (keep2_Digits_Next (⟨s40.2⟩ : Fullingkeep2Digits) 9) (fun r59 => (some (([] : List Int), (w64 (r59.1 - 4)), r59.2.N)))) (Option.bind (cnd (s6.1 == 34) (some (s6.1 == 34)) (some (s6.1 == 35))) (fun s61 => (cnd s61 (Option.bind (keep2_Digits_Next (⟨s40.2⟩ : Fullingkeep2Digits) 2) (fun r68 => (some (([] : List Int), r68.1, r68.2.N)))) (cnd (s6.1 == 6) (Option.bind (keep2_Digits_Next (⟨s40.2⟩ : Fullingkeep2Digits) 2) (fun r71 => (Option.bind (keep2_VInstr_l1 K a1 K ((w64 (2 - r71.1)), r71.2.N, ([] : List Int))) (fun s73 => (some (s73.2, r71.1, s73.1)))))) (some (([] : List Int), 0, s40.2)))))))) (fun s48 => (some (⟨(⟨s6.1, s20.1, s28.1, s40.1, s48.2.1⟩ : Instr), s48.1⟩ : VInstr))))))))))))))))

theorem c_keep2_VInstr (K : Nat) (a0 : Int) (a1 : VFunc) (r : VInstr) (h : keep2_VInstr K a0 a1 = some r) : CallP Tryd.prog glob 57 [(tI a0), (Ty.agg [(tI a1.Params), (tI a1.Regs), Ty.any])] (Ty.agg [(tI r.Instr.Op), (tI r.Instr.A), (tI r.Instr.B), (tI r.Instr.C), (tI r.Instr.N), (tL 1 lI r.Args)]) := by
  refine call_of_code Tryd.func57 rfl Tryd.ntmps57 rfl (fun L w => ?_)
  change OkC _ _ _ [(0, (tI a0)), (1, (Ty.agg [(tI a1.Params), (tI a1.Regs), Ty.any]))] (L)
  unfold keep2_VInstr at h
  refine okC_seq ?_
  refine okC_region ?_
  refine okL_stepO 3 rfl rfl (doesO_box [(tI a1.Params), (tI a1.Regs), Ty.any] rfl (part_agg _) (fun g1 => ?_))
  refine okL_stepO 4 rfl rfl (doesO_alloc [(tI 0), (tI 0), (tI 0), (tI 0), (tI 0), (Ty.val (.slice none 0 0))] Tryd.zeroValue48 (part_of (sub_agg [(.int .i64 0), (.int .i64 0), (.int .i64 0), (.int .i64 0), (.int .i64 0), (.slice none 0 0)] rfl) (part_agg _)) (fun g2 => ?_))
  refine okL_nil ?_
  refine okX_next ?_
  refine okC_seq ?_
  refine okC_region ?_
  refine okL_step 14 (tI a0) rfl rfl (does_move rfl) ?_
  refine okL_step 15 (Ty.agg [(tI a0)]) rfl rfl (does_build [(tI a0)] Tryd.zeroValue103 Tryd.underlying103 (places103 _ Tryd.underlying103) rfl (fc [(tI a0)] 0 rfl (part_one (one_i _)) rfl rfl (fn_ rfl))) ?_
  refine okL_stepO 16 rfl rfl (doesO_box [(tI a0)] rfl (part_agg _) (fun g3 => ?_))
  refine okL_step 5 (pAt g3 0) rfl rfl (does_assign rfl) ?_
  refine okL_nil ?_
  refine okX_next ?_
  refine okC_seq ?_
  refine okC_region ?_
  refine okL_step 17 (tL 1 lI ([3, 6, 9, 10, 11, 12, 13, 33, 34, 35, 10, 9] : List Int)) rfl rfl (does_buildSlice (f := lI) ([3, 6, 9, 10, 11, 12, 13, 33, 34, 35, 10, 9] : List Int) [(tI 3), (tI 6), (tI 9), (tI 10), (tI 11), (tI 12), (tI 13), (tI 33), (tI 34), (tI 35), (tI 10), (tI 9)] el31 rfl rfl rfl (fc [(tI 3)] 0 rfl (part_one (one_i _)) rfl rfl (fc [(tI 6)] 1 rfl (part_one (one_i _)) rfl rfl (fc [(tI 9)] 2 rfl (part_one (one_i _)) rfl rfl (fc [(tI 10)] 3 rfl (part_one (one_i _)) rfl rfl (fc [(tI 11)] 4 rfl (part_one (one_i _)) rfl rfl (fc [(tI 12)] 5 rfl (part_one (one_i _)) rfl rfl (fc [(tI 13)] 6 rfl (part_one (one_i _)) rfl rfl (fc [(tI 33)] 7 rfl (part_one (one_i _)) rfl rfl (fc [(tI 34)] 8 rfl (part_one (one_i _)) rfl rfl (fc [(tI 35)] 9 rfl (part_one (one_i _)) rfl rfl (fc [(tI 10)] 10 rfl (part_one (one_i _)) rfl rfl (fc [(tI 9)] 11 rfl (part_one (one_i _)) rfl rfl (fn_ rfl))))))))))))) rfl (fun _ => rfl)) ?_
  refine okL_step 6 (tL 1 lI ([3, 6, 9, 10, 11, 12, 13, 33, 34, 35, 10, 9] : List Int)) rfl rfl (does_assign rfl) ?_
  refine okL_nil ?_
  refine okX_next ?_
  refine okC_seq ?_
  refine okC_region ?_
  refine okL_step 18 (pAt g3 0) rfl rfl (does_move rfl) ?_
  obtain ⟨r4, hc5, h⟩ := bs h
  refine okL_stepO 19 rfl rfl (doesO_call0 (Item.blk g2 48 [(tI 0), (tI 0), (tI 0), (tI 0), (tI 0), (Ty.val (.slice none 0 0))] :: Item.blk g1 27 [(tI a1.Params), (tI a1.Regs), Ty.any] :: L) (c_keep2_Digits_Next (⟨a0⟩ : Fullingkeep2Digits) 18 g3 r4 hc5) rfl Tryd.call74 rfl (pm 0 rfl (pr _)) (fun _ => ?_))
  refine okL_step 20 (tI (w64 (15 + r4.1))) rfl rfl (does_add rfl rfl) ?_
  refine okL_step 7 (tI (w64 (15 + r4.1))) rfl rfl (does_assign rfl) ?_
  refine okL_nil ?_
  refine okX_next ?_
  obtain ⟨z8, h10, hz9⟩ := bs h
  refine okC_meet (X := (Int × Int)) (fun x => z8 = x) (fun x : (Int × Int) => [(0, (tI a0)), (3, (pAt g1 0)), (4, (pAt g2 0)), (5, (pAt g3 0)), (7, (tI x.1))]) (fun x : (Int × Int) => Item.blk g3 103 [(tI x.2)] :: Item.blk g2 48 [(tI 0), (tI 0), (tI 0), (tI 0), (tI 0), (Ty.val (.slice none 0 0))] :: Item.blk g1 27 [(tI a1.Params), (tI a1.Regs), Ty.any] :: L) ?_ ?_
  · refine okC_seq ?_
    refine okC_region ?_
    refine okL_step 21 (pAt g3 0) rfl rfl (does_move rfl) ?_
    obtain ⟨r11, hc12, h10⟩ := bs h10
    refine okL_stepO 22 rfl rfl (doesO_call0 (Item.blk g2 48 [(tI 0), (tI 0), (tI 0), (tI 0), (tI 0), (Ty.val (.slice none 0 0))] :: Item.blk g1 27 [(tI a1.Params), (tI a1.Regs), Ty.any] :: L) (c_keep2_Digits_Next r4.2 24 g3 r11 hc12) rfl Tryd.call74 rfl (pm 0 rfl (pr _)) (fun _ => ?_))
    refine okL_step 8 (tI r11.1) rfl rfl (does_assign rfl) ?_
    refine okL_nil ?_
    refine okX_next ?_
    refine okC_seq ?_
    refine okC_region ?_
    refine okL_step 23 (tI r11.1) rfl rfl (does_move rfl) ?_
    refine okL_step 24 (tL 1 lI ([3, 6, 9, 10, 11, 12, 13, 33, 34, 35, 10, 9] : List Int)) rfl rfl (does_move rfl) ?_
    refine okL_step 25 (tI ((([3, 6, 9, 10, 11, 12, 13, 33, 34, 35, 10, 9] : List Int)).length : Int)) rfl rfl (does_len (sz := 1) (f := lI) (l := ([3, 6, 9, 10, 11, 12, 13, 33, 34, 35, 10, 9] : List Int)) rfl Tryd.underlying31 rfl) ?_
    refine okL_step 26 (tB (decide (r11.1 < ((([3, 6, 9, 10, 11, 12, 13, 33, 34, 35, 10, 9] : List Int)).length : Int)))) rfl rfl (does_lss rfl rfl) ?_
    refine okL_nil ?_
    refine okX_next ?_
    refine okC_cond (b := (decide (r11.1 < ((([3, 6, 9, 10, 11, 12, 13, 33, 34, 35, 10, 9] : List Int)).length : Int)))) rfl (fun hb13 => ?_) (fun hb13 => ?_)
    · replace h10 := ct hb13 h10
      refine okC_region ?_
      refine okL_step 27 (tL 1 lI ([3, 6, 9, 10, 11, 12, 13, 33, 34, 35, 10, 9] : List Int)) rfl rfl (does_move rfl) ?_
      refine okL_step 28 (tI r11.1) rfl rfl (does_move rfl) ?_
      obtain ⟨y14, hi15, h10⟩ := bs h10
      refine okL_step 29 (Ty.ptr [(tI y14)]) rfl rfl (does_index (sz := 1) (f := lI) (l := ([3, 6, 9, 10, 11, 12, 13, 33, 34, 35, 10, 9] : List Int)) (n := r11.1) y14 Tryd.underlying31 Tryd.sizeOf3 hi15 rfl rfl) ?_
      refine okL_step 30 (tI y14) rfl rfl (does_load1 Tryd.isAgg3 rfl) ?_
      refine okL_step 7 (tI y14) rfl rfl (does_assign rfl) ?_
      refine okL_nil ?_
      exact okX_meet (I := _) (y14, r11.2.N) (smh h10) (cc rfl (cc rfl (cc rfl (cc rfl (cc rfl cn))))) rfl
    · replace h10 := cf hb13 h10
      refine okC_skip ?_
      exact okX_meet (I := _) ((w64 (15 + r4.1)), r11.2.N) (smh h10) (cc rfl (cc rfl (cc rfl (cc rfl (cc rfl cn))))) rfl
  · intro s6 hx
    change OkC _ _ _ [(0, (tI a0)), (3, (pAt g1 0)), (4, (pAt g2 0)), (5, (pAt g3 0)), (7, (tI s6.1))] (Item.blk g3 103 [(tI s6.2)] :: Item.blk g2 48 [(tI 0), (tI 0), (tI 0), (tI 0), (tI 0), (Ty.val (.slice none 0 0))] :: Item.blk g1 27 [(tI a1.Params), (tI a1.Regs), Ty.any] :: L)
    obtain rfl : s6 = z8 := hx.symm
    replace h := hz9
    refine okC_seq ?_
    refine okC_region ?_
    refine okL_step 31 (tI s6.1) rfl rfl (does_move rfl) ?_
    refine okL_step 32 (Ty.agg [(tI s6.1), (tI 0), (tI 0), (tI 0), (tI 0)]) rfl rfl (does_build [(tI s6.1), (tI 0), (tI 0), (tI 0), (tI 0)] Tryd.zeroValue46 Tryd.underlying46 (places46 _ Tryd.underlying46) rfl (fc [(tI s6.1)] 0 rfl (part_one (one_i _)) rfl rfl (fn_ rfl))) ?_
    refine okL_step 33 (Ty.agg [(tI s6.1), (tI 0), (tI 0), (tI 0), (tI 0), (Ty.val (.slice none 0 0))]) rfl rfl (does_build [(tI s6.1), (tI 0), (tI 0), (tI 0), (tI 0), (Ty.val (.slice none 0 0))] Tryd.zeroValue48 Tryd.underlying48 (places48 _ Tryd.underlying48) rfl (fc [(tI s6.1), (tI 0), (tI 0), (tI 0), (tI 0)] 0 rfl (part_agg _) rfl rfl (fn_ rfl))) ?_
    refine okL_stepO 9 rfl rfl (doesO_alloc [(tI 0), (tI 0), (tI 0), (tI 0), (tI 0), (Ty.val (.slice none 0 0))] Tryd.zeroValue48 (part_of (sub_agg [(.int .i64 0), (.int .i64 0), (.int .i64 0), (.int .i64 0), (.int .i64 0), (.slice none 0 0)] rfl) (part_agg _)) (fun g16 => ?_))
    refine okL_stepU rfl (doesO_storeB (ps := [(tI s6.1), (tI 0), (tI 0), (tI 0), (tI 0), (Ty.val (.slice none 0 0))]) 0 [(tI s6.1), (tI 0), (tI 0), (tI 0), (tI 0), (Ty.val (.slice none 0 0))] (Item.blk g16 48 [(tI s6.1), (tI 0), (tI 0), (tI 0), (tI 0), (Ty.val (.slice none 0 0))] :: Item.blk g3 103 [(tI s6.2)] :: Item.blk g2 48 [(tI 0), (tI 0), (tI 0), (tI 0), (tI 0), (Ty.val (.slice none 0 0))] :: Item.blk g1 27 [(tI a1.Params), (tI a1.Regs), Ty.any] :: L) rfl rfl (part_agg _) Tryd.sizeOf48 rfl rfl rfl rfl ?_)
    refine okL_nil ?_
    refine okX_next ?_
    refine okC_seq ?_
    refine okC_region ?_
    refine okL_step 35 (tI s6.1) rfl rfl (does_move rfl) ?_
    obtain ⟨r17, hc18, h⟩ := bs h
    refine okL_step 36 (Ty.tup [(Ty.agg [(tS r17.1.Name), (tI r17.1.Form), (tB r17.1.ReadsA), (tB r17.1.WritesA), (tB r17.1.ReadsB), (tB r17.1.MayTrap), (tI r17.1.Words)]), (tB r17.2)]) rfl rfl (does_call0 (c_ref29_Info s6.1 r17 hc18) rfl Tryd.call99 rfl) ?_
    refine okL_step 34 (Ty.tup [(Ty.agg [(tS r17.1.Name), (tI r17.1.Form), (tB r17.1.ReadsA), (tB r17.1.WritesA), (tB r17.1.ReadsB), (tB r17.1.MayTrap), (tI r17.1.Words)]), (tB r17.2)]) rfl rfl (does_move rfl) ?_
    refine okL_step 37 (Ty.agg [(tS r17.1.Name), (tI r17.1.Form), (tB r17.1.ReadsA), (tB r17.1.WritesA), (tB r17.1.ReadsB), (tB r17.1.MayTrap), (tI r17.1.Words)]) rfl rfl (does_extract rfl rfl) ?_
    refine okL_step 38 (tB r17.2) rfl rfl (does_extract rfl rfl) ?_
    refine okL_stepO 10 rfl rfl (doesO_alloc [(tS ⟨#[]⟩), (tI 0), (tB false), (tB false), (tB false), (tB false), (tI 0)] Tryd.zeroValue113 (part_of (sub_agg [(.string ⟨#[]⟩), (.int .i64 0), (.bool false), (.bool false), (.bool false), (.bool false), (.int .i64 0)] rfl) (part_agg _)) (fun g19 => ?_))
    refine okL_stepU rfl (doesO_storeB (ps := [(tS r17.1.Name), (tI r17.1.Form), (tB r17.1.ReadsA), (tB r17.1.WritesA), (tB r17.1.ReadsB), (tB r17.1.MayTrap), (tI r17.1.Words)]) 0 [(tS r17.1.Name), (tI r17.1.Form), (tB r17.1.ReadsA), (tB r17.1.WritesA), (tB r17.1.ReadsB), (tB r17.1.MayTrap), (tI r17.1.Words)] (Item.blk g19 113 [(tS r17.1.Name), (tI r17.1.Form), (tB r17.1.ReadsA), (tB r17.1.WritesA), (tB r17.1.ReadsB), (tB r17.1.MayTrap), (tI r17.1.Words)] :: Item.blk g16 48 [(tI s6.1), (tI 0), (tI 0), (tI 0), (tI 0), (Ty.val (.slice none 0 0))] :: Item.blk g3 103 [(tI s6.2)] :: Item.blk g2 48 [(tI 0), (tI 0), (tI 0), (tI 0), (tI 0), (Ty.val (.slice none 0 0))] :: Item.blk g1 27 [(tI a1.Params), (tI a1.Regs), Ty.any] :: L) rfl rfl (part_agg _) Tryd.sizeOf113 rfl rfl rfl rfl ?_)
    refine okL_step 11 (tB r17.2) rfl rfl (does_assign rfl) ?_
    refine okL_nil ?_
    refine okX_next ?_
    refine okC_seq ?_
    refine okC_region ?_
    refine okL_step 39 (pAt g19 1) rfl rfl (does_fieldAddrP 1 Tryd.underlying113 rfl Tryd.sizeOf3 rfl rfl) ?_
    refine okL_step 40 (tI r17.1.Form) rfl rfl (does_loadB1 Tryd.isAgg3 rfl 0 rfl rfl) ?_
    refine okL_step 12 (tI r17.1.Form) rfl rfl (does_assign rfl) ?_
    refine okL_nil ?_
    refine okX_next ?_
    obtain ⟨z22, h24, hz23⟩ := bs h
    refine okC_meet (X := (Int × Int)) (fun x => z22 = x) (fun x : (Int × Int) => [(0, (tI a0)), (3, (pAt g1 0)), (4, (pAt g2 0)), (5, (pAt g3 0)), (7, (tI s6.1)), (9, (pAt g16 0)), (12, (tI r17.1.Form))]) (fun x : (Int × Int) => Item.blk g19 113 [(tS r17.1.Name), (tI r17.1.Form), (tB r17.1.ReadsA), (tB r17.1.WritesA), (tB r17.1.ReadsB), (tB r17.1.MayTrap), (tI r17.1.Words)] :: Item.blk g16 48 [(tI s6.1), (tI x.1), (tI 0), (tI 0), (tI 0), (Ty.val (.slice none 0 0))] :: Item.blk g3 103 [(tI x.2)] :: Item.blk g2 48 [(tI 0), (tI 0), (tI 0), (tI 0), (tI 0), (Ty.val (.slice none 0 0))] :: Item.blk g1 27 [(tI a1.Params), (tI a1.Regs), Ty.any] :: L) ?_ ?_
    · refine okC_seq ?_
      refine okC_region ?_
      refine okL_step 41 (tI r17.1.Form) rfl rfl (does_move rfl) ?_
      refine okL_step 42 (tB (r17.1.Form != 1)) rfl rfl (does_neq rfl rfl) ?_
      refine okL_nil ?_
      refine okX_next ?_
      refine okC_cond (b := (r17.1.Form != 1)) rfl (fun hb25 => ?_) (fun hb25 => ?_)
      · replace h24 := ct hb25 h24
        refine okC_region ?_
        refine okL_step 43 (pAt g3 0) rfl rfl (does_move rfl) ?_
        refine okL_step 44 (pAt g1 1) rfl rfl (does_fieldAddrP 1 Tryd.underlying27 rfl Tryd.sizeOf3 rfl rfl) ?_
        refine okL_step 45 (tI a1.Regs) rfl rfl (does_loadB1 Tryd.isAgg3 rfl 4 rfl rfl) ?_
        obtain ⟨r26, hc27, h24⟩ := bs h24
        refine okL_stepO 46 rfl rfl (doesO_call0 (Item.blk g19 113 [(tS r17.1.Name), (tI r17.1.Form), (tB r17.1.ReadsA), (tB r17.1.WritesA), (tB r17.1.ReadsB), (tB r17.1.MayTrap), (tI r17.1.Words)] :: Item.blk g16 48 [(tI s6.1), (tI 0), (tI 0), (tI 0), (tI 0), (Ty.val (.slice none 0 0))] :: Item.blk g2 48 [(tI 0), (tI 0), (tI 0), (tI 0), (tI 0), (Ty.val (.slice none 0 0))] :: Item.blk g1 27 [(tI a1.Params), (tI a1.Regs), Ty.any] :: L) (c_keep2_Digits_Next (⟨s6.2⟩ : Fullingkeep2Digits) a1.Regs g3 r26 hc27) rfl Tryd.call74 rfl (pm 2 rfl (pr _)) (fun _ => ?_))
        refine okL_step 47 (pAt g16 0) rfl rfl (does_fieldAddrP 0 Tryd.underlying48 rfl Tryd.sizeOf46 rfl rfl) ?_
        refine okL_step 48 (pAt g16 1) rfl rfl (does_fieldAddrP 1 Tryd.underlying46 rfl Tryd.sizeOf3 rfl rfl) ?_
        refine okL_stepU rfl (doesO_storeB (ps := [(tI r26.1)]) 2 [(tI s6.1), (tI r26.1), (tI 0), (tI 0), (tI 0), (Ty.val (.slice none 0 0))] (Item.blk g3 103 [(tI r26.2.N)] :: Item.blk g19 113 [(tS r17.1.Name), (tI r17.1.Form), (tB r17.1.ReadsA), (tB r17.1.WritesA), (tB r17.1.ReadsB), (tB r17.1.MayTrap), (tI r17.1.Words)] :: Item.blk g16 48 [(tI s6.1), (tI r26.1), (tI 0), (tI 0), (tI 0), (Ty.val (.slice none 0 0))] :: Item.blk g2 48 [(tI 0), (tI 0), (tI 0), (tI 0), (tI 0), (Ty.val (.slice none 0 0))] :: Item.blk g1 27 [(tI a1.Params), (tI a1.Regs), Ty.any] :: L) rfl rfl (part_one (one_i _)) Tryd.sizeOf3 rfl rfl rfl rfl ?_)
        refine okL_nil ?_
        refine okX_items [] (Item.blk g19 113 [(tS r17.1.Name), (tI r17.1.Form), (tB r17.1.ReadsA), (tB r17.1.WritesA), (tB r17.1.ReadsB), (tB r17.1.MayTrap), (tI r17.1.Words)] :: Item.blk g16 48 [(tI s6.1), (tI r26.1), (tI 0), (tI 0), (tI 0), (Ty.val (.slice none 0 0))] :: Item.blk g3 103 [(tI r26.2.N)] :: Item.blk g2 48 [(tI 0), (tI 0), (tI 0), (tI 0), (tI 0), (Ty.val (.slice none 0 0))] :: Item.blk g1 27 [(tI a1.Params), (tI a1.Regs), Ty.any] :: L) (pm 1 rfl (pm 1 rfl (pm 0 rfl (pm 0 rfl (pm 0 rfl (pr _)))))) ?_
        exact okX_meet (I := _) (r26.1, r26.2.N) (smh h24) (cc rfl (cc rfl (cc rfl (cc rfl (cc rfl (cc rfl (cc rfl cn))))))) rfl
      · replace h24 := cf hb25 h24
        refine okC_skip ?_
        exact okX_meet (I := _) (0, s6.2) (smh h24) (cc rfl (cc rfl (cc rfl (cc rfl (cc rfl (cc rfl (cc rfl cn))))))) rfl
    · intro s20 hx
      change OkC _ _ _ [(0, (tI a0)), (3, (pAt g1 0)), (4, (pAt g2 0)), (5, (pAt g3 0)), (7, (tI s6.1)), (9, (pAt g16 0)), (12, (tI r17.1.Form))] (Item.blk g19 113 [(tS r17.1.Name), (tI r17.1.Form), (tB r17.1.ReadsA), (tB r17.1.WritesA), (tB r17.1.ReadsB), (tB r17.1.MayTrap), (tI r17.1.Words)] :: Item.blk g16 48 [(tI s6.1), (tI s20.1), (tI 0), (tI 0), (tI 0), (Ty.val (.slice none 0 0))] :: Item.blk g3 103 [(tI s20.2)] :: Item.blk g2 48 [(tI 0), (tI 0), (tI 0), (tI 0), (tI 0), (Ty.val (.slice none 0 0))] :: Item.blk g1 27 [(tI a1.Params), (tI a1.Regs), Ty.any] :: L)
      obtain rfl : s20 = z22 := hx.symm
      replace h := hz23
      obtain ⟨z30, h32, hz31⟩ := bs h
      refine okC_meet (X := (Int × Int)) (fun x => z30 = x) (fun x : (Int × Int) => [(0, (tI a0)), (3, (pAt g1 0)), (4, (pAt g2 0)), (5, (pAt g3 0)), (7, (tI s6.1)), (9, (pAt g16 0)), (12, (tI r17.1.Form))]) (fun x : (Int × Int) => Item.blk g19 113 [(tS r17.1.Name), (tI r17.1.Form), (tB r17.1.ReadsA), (tB r17.1.WritesA), (tB r17.1.ReadsB), (tB r17.1.MayTrap), (tI r17.1.Words)] :: Item.blk g16 48 [(tI s6.1), (tI s20.1), (tI x.1), (tI 0), (tI 0), (Ty.val (.slice none 0 0))] :: Item.blk g3 103 [(tI x.2)] :: Item.blk g2 48 [(tI 0), (tI 0), (tI 0), (tI 0), (tI 0), (Ty.val (.slice none 0 0))] :: Item.blk g1 27 [(tI a1.Params), (tI a1.Regs), Ty.any] :: L) ?_ ?_
      · refine okC_seq ?_
        refine okC_region ?_
        refine okL_step 49 (tI r17.1.Form) rfl rfl (does_move rfl) ?_
        refine okL_step 50 (tB (r17.1.Form == 3)) rfl rfl (does_eql rfl rfl) ?_
        refine okL_step 51 (tB (r17.1.Form == 3)) rfl rfl (does_move rfl) ?_
        refine okL_meet (X := Bool) 3 (fun x => x = ((r17.1.Form == 3) || (r17.1.Form == 4))) (fun x : Bool => [(0, (tI a0)), (3, (pAt g1 0)), (4, (pAt g2 0)), (5, (pAt g3 0)), (7, (tI s6.1)), (9, (pAt g16 0)), (12, (tI r17.1.Form)), (54, (tB x))]) (fun x : Bool => Item.blk g19 113 [(tS r17.1.Name), (tI r17.1.Form), (tB r17.1.ReadsA), (tB r17.1.WritesA), (tB r17.1.ReadsB), (tB r17.1.MayTrap), (tI r17.1.Words)] :: Item.blk g16 48 [(tI s6.1), (tI s20.1), (tI 0), (tI 0), (tI 0), (Ty.val (.slice none 0 0))] :: Item.blk g3 103 [(tI s20.2)] :: Item.blk g2 48 [(tI 0), (tI 0), (tI 0), (tI 0), (tI 0), (Ty.val (.slice none 0 0))] :: Item.blk g1 27 [(tI a1.Params), (tI a1.Regs), Ty.any] :: L) _ rfl ?_ ?_
        · refine okL_split (r17.1.Form == 3) (fun hb33 => ?_) (fun hb33 => ?_)
          · refine okL_skip 52 51 (r17.1.Form == 3) rfl rfl hb33 rfl rfl ?_
            refine okL_skip 53 51 (r17.1.Form == 3) rfl rfl hb33 rfl rfl ?_
            refine okL_step 54 (tB true) rfl rfl (does_pick_t (r17.1.Form == 3) rfl hb33 rfl) ?_
            refine okL_nil ?_
            exact okX_meet (I := _) true (or_t hb33) (cc rfl (cc rfl (cc rfl (cc rfl (cc rfl (cc rfl (cc rfl (cc rfl cn)))))))) rfl
          · refine okL_guard 52 (tI r17.1.Form) 51 (r17.1.Form == 3) rfl rfl hb33 rfl rfl (does_move rfl) ?_
            refine okL_guard 53 (tB (r17.1.Form == 4)) 51 (r17.1.Form == 3) rfl rfl hb33 rfl rfl (does_eql rfl rfl) ?_
            refine okL_step 54 (tB (r17.1.Form == 4)) rfl rfl (does_pick_f (r17.1.Form == 3) rfl hb33 rfl) ?_
            refine okL_nil ?_
            exact okX_meet (I := _) (r17.1.Form == 4) (or_f hb33) (cc rfl (cc rfl (cc rfl (cc rfl (cc rfl (cc rfl (cc rfl (cc rfl cn)))))))) rfl
        · intro x39 hx
          subst hx
          change OkL _ _ _ _ [(0, (tI a0)), (3, (pAt g1 0)), (4, (pAt g2 0)), (5, (pAt g3 0)), (7, (tI s6.1)), (9, (pAt g16 0)), (12, (tI r17.1.Form)), (54, (tB ((r17.1.Form == 3) || (r17.1.Form == 4))))] (Item.blk g19 113 [(tS r17.1.Name), (tI r17.1.Form), (tB r17.1.ReadsA), (tB r17.1.WritesA), (tB r17.1.ReadsB), (tB r17.1.MayTrap), (tI r17.1.Words)] :: Item.blk g16 48 [(tI s6.1), (tI s20.1), (tI 0), (tI 0), (tI 0), (Ty.val (.slice none 0 0))] :: Item.blk g3 103 [(tI s20.2)] :: Item.blk g2 48 [(tI 0), (tI 0), (tI 0), (tI 0), (tI 0), (Ty.val (.slice none 0 0))] :: Item.blk g1 27 [(tI a1.Params), (tI a1.Regs), Ty.any] :: L)
          refine okL_step 55 (tB ((r17.1.Form == 3) || (r17.1.Form == 4))) rfl rfl (does_move rfl) ?_
          refine okL_meet (X := Bool) 3 (fun x => x = (((r17.1.Form == 3) || (r17.1.Form == 4)) || (r17.1.Form == 7))) (fun x : Bool => [(0, (tI a0)), (3, (pAt g1 0)), (4, (pAt g2 0)), (5, (pAt g3 0)), (7, (tI s6.1)), (9, (pAt g16 0)), (12, (tI r17.1.Form)), (58, (tB x))]) (fun x : Bool => Item.blk g19 113 [(tS r17.1.Name), (tI r17.1.Form), (tB r17.1.ReadsA), (tB r17.1.WritesA), (tB r17.1.ReadsB), (tB r17.1.MayTrap), (tI r17.1.Words)] :: Item.blk g16 48 [(tI s6.1), (tI s20.1), (tI 0), (tI 0), (tI 0), (Ty.val (.slice none 0 0))] :: Item.blk g3 103 [(tI s20.2)] :: Item.blk g2 48 [(tI 0), (tI 0), (tI 0), (tI 0), (tI 0), (Ty.val (.slice none 0 0))] :: Item.blk g1 27 [(tI a1.Params), (tI a1.Regs), Ty.any] :: L) _ rfl ?_ ?_
          · refine okL_split ((r17.1.Form == 3) || (r17.1.Form == 4)) (fun hb34 => ?_) (fun hb34 => ?_)
            · refine okL_skip 56 55 ((r17.1.Form == 3) || (r17.1.Form == 4)) rfl rfl hb34 rfl rfl ?_
              refine okL_skip 57 55 ((r17.1.Form == 3) || (r17.1.Form == 4)) rfl rfl hb34 rfl rfl ?_
              refine okL_step 58 (tB true) rfl rfl (does_pick_t ((r17.1.Form == 3) || (r17.1.Form == 4)) rfl hb34 rfl) ?_
              refine okL_nil ?_
              exact okX_meet (I := _) true (or_t hb34) (cc rfl (cc rfl (cc rfl (cc rfl (cc rfl (cc rfl (cc rfl (cc rfl cn)))))))) rfl
            · refine okL_guard 56 (tI r17.1.Form) 55 ((r17.1.Form == 3) || (r17.1.Form == 4)) rfl rfl hb34 rfl rfl (does_move rfl) ?_
              refine okL_guard 57 (tB (r17.1.Form == 7)) 55 ((r17.1.Form == 3) || (r17.1.Form == 4)) rfl rfl hb34 rfl rfl (does_eql rfl rfl) ?_
              refine okL_step 58 (tB (r17.1.Form == 7)) rfl rfl (does_pick_f ((r17.1.Form == 3) || (r17.1.Form == 4)) rfl hb34 rfl) ?_
              refine okL_nil ?_
              exact okX_meet (I := _) (r17.1.Form == 7) (or_f hb34) (cc rfl (cc rfl (cc rfl (cc rfl (cc rfl (cc rfl (cc rfl (cc rfl cn)))))))) rfl
          · intro x38 hx
            subst hx
            change OkL _ _ _ _ [(0, (tI a0)), (3, (pAt g1 0)), (4, (pAt g2 0)), (5, (pAt g3 0)), (7, (tI s6.1)), (9, (pAt g16 0)), (12, (tI r17.1.Form)), (58, (tB (((r17.1.Form == 3) || (r17.1.Form == 4)) || (r17.1.Form == 7))))] (Item.blk g19 113 [(tS r17.1.Name), (tI r17.1.Form), (tB r17.1.ReadsA), (tB r17.1.WritesA), (tB r17.1.ReadsB), (tB r17.1.MayTrap), (tI r17.1.Words)] :: Item.blk g16 48 [(tI s6.1), (tI s20.1), (tI 0), (tI 0), (tI 0), (Ty.val (.slice none 0 0))] :: Item.blk g3 103 [(tI s20.2)] :: Item.blk g2 48 [(tI 0), (tI 0), (tI 0), (tI 0), (tI 0), (Ty.val (.slice none 0 0))] :: Item.blk g1 27 [(tI a1.Params), (tI a1.Regs), Ty.any] :: L)
            refine okL_nil ?_
            refine okX_next ?_
            refine okC_cond (b := (((r17.1.Form == 3) || (r17.1.Form == 4)) || (r17.1.Form == 7))) rfl (fun hb35 => ?_) (fun hb35 => ?_)
            · replace h32 := ct hb35 h32
              refine okC_region ?_
              refine okL_step 59 (pAt g3 0) rfl rfl (does_move rfl) ?_
              refine okL_step 60 (pAt g1 1) rfl rfl (does_fieldAddrP 1 Tryd.underlying27 rfl Tryd.sizeOf3 rfl rfl) ?_
              refine okL_step 61 (tI a1.Regs) rfl rfl (does_loadB1 Tryd.isAgg3 rfl 4 rfl rfl) ?_
              obtain ⟨r36, hc37, h32⟩ := bs h32
              refine okL_stepO 62 rfl rfl (doesO_call0 (Item.blk g19 113 [(tS r17.1.Name), (tI r17.1.Form), (tB r17.1.ReadsA), (tB r17.1.WritesA), (tB r17.1.ReadsB), (tB r17.1.MayTrap), (tI r17.1.Words)] :: Item.blk g16 48 [(tI s6.1), (tI s20.1), (tI 0), (tI 0), (tI 0), (Ty.val (.slice none 0 0))] :: Item.blk g2 48 [(tI 0), (tI 0), (tI 0), (tI 0), (tI 0), (Ty.val (.slice none 0 0))] :: Item.blk g1 27 [(tI a1.Params), (tI a1.Regs), Ty.any] :: L) (c_keep2_Digits_Next (⟨s20.2⟩ : Fullingkeep2Digits) a1.Regs g3 r36 hc37) rfl Tryd.call74 rfl (pm 2 rfl (pr _)) (fun _ => ?_))
              refine okL_step 63 (pAt g16 0) rfl rfl (does_fieldAddrP 0 Tryd.underlying48 rfl Tryd.sizeOf46 rfl rfl) ?_
              refine okL_step 64 (pAt g16 2) rfl rfl (does_fieldAddrP 2 Tryd.underlying46 rfl Tryd.sizeOf3 rfl rfl) ?_
              refine okL_stepU rfl (doesO_storeB (ps := [(tI r36.1)]) 2 [(tI s6.1), (tI s20.1), (tI r36.1), (tI 0), (tI 0), (Ty.val (.slice none 0 0))] (Item.blk g3 103 [(tI r36.2.N)] :: Item.blk g19 113 [(tS r17.1.Name), (tI r17.1.Form), (tB r17.1.ReadsA), (tB r17.1.WritesA), (tB r17.1.ReadsB), (tB r17.1.MayTrap), (tI r17.1.Words)] :: Item.blk g16 48 [(tI s6.1), (tI s20.1), (tI r36.1), (tI 0), (tI 0), (Ty.val (.slice none 0 0))] :: Item.blk g2 48 [(tI 0), (tI 0), (tI 0), (tI 0), (tI 0), (Ty.val (.slice none 0 0))] :: Item.blk g1 27 [(tI a1.Params), (tI a1.Regs), Ty.any] :: L) rfl rfl (part_one (one_i _)) Tryd.sizeOf3 rfl rfl rfl rfl ?_)
              refine okL_nil ?_
              refine okX_items [] (Item.blk g19 113 [(tS r17.1.Name), (tI r17.1.Form), (tB r17.1.ReadsA), (tB r17.1.WritesA), (tB r17.1.ReadsB), (tB r17.1.MayTrap), (tI r17.1.Words)] :: Item.blk g16 48 [(tI s6.1), (tI s20.1), (tI r36.1), (tI 0), (tI 0), (Ty.val (.slice none 0 0))] :: Item.blk g3 103 [(tI r36.2.N)] :: Item.blk g2 48 [(tI 0), (tI 0), (tI 0), (tI 0), (tI 0), (Ty.val (.slice none 0 0))] :: Item.blk g1 27 [(tI a1.Params), (tI a1.Regs), Ty.any] :: L) (pm 1 rfl (pm 1 rfl (pm 0 rfl (pm 0 rfl (pm 0 rfl (pr _)))))) ?_
              exact okX_meet (I := _) (r36.1, r36.2.N) (smh h32) (cc rfl (cc rfl (cc rfl (cc rfl (cc rfl (cc rfl (cc rfl cn))))))) rfl
            · replace h32 := cf hb35 h32
              refine okC_skip ?_
              exact okX_meet (I := _) (0, s20.2) (smh h32) (cc rfl (cc rfl (cc rfl (cc rfl (cc rfl (cc rfl (cc rfl cn))))))) rfl
      · intro s28 hx
        change OkC _ _ _ [(0, (tI a0)), (3, (pAt g1 0)), (4, (pAt g2 0)), (5, (pAt g3 0)), (7, (tI s6.1)), (9, (pAt g16 0)), (12, (tI r17.1.Form))] (Item.blk g19 113 [(tS r17.1.Name), (tI r17.1.Form), (tB r17.1.ReadsA), (tB r17.1.WritesA), (tB r17.1.ReadsB), (tB r17.1.MayTrap), (tI r17.1.Words)] :: Item.blk g16 48 [(tI s6.1), (tI s20.1), (tI s28.1), (tI 0), (tI 0), (Ty.val (.slice none 0 0))] :: Item.blk g3 103 [(tI s28.2)] :: Item.blk g2 48 [(tI 0), (tI 0), (tI 0), (tI 0), (tI 0), (Ty.val (.slice none 0 0))] :: Item.blk g1 27 [(tI a1.Params), (tI a1.Regs), Ty.any] :: L)
        obtain rfl : s28 = z30 := hx.symm
        replace h := hz31
        obtain ⟨z42, h44, hz43⟩ := bs h
        refine okC_meet (X := (Int × Int)) (fun x => z42 = x) (fun x : (Int × Int) => [(0, (tI a0)), (3, (pAt g1 0)), (4, (pAt g2 0)), (5, (pAt g3 0)), (7, (tI s6.1)), (9, (pAt g16 0))]) (fun x : (Int × Int) => Item.blk g19 113 [(tS r17.1.Name), (tI r17.1.Form), (tB r17.1.ReadsA), (tB r17.1.WritesA), (tB r17.1.ReadsB), (tB r17.1.MayTrap), (tI r17.1.Words)] :: Item.blk g16 48 [(tI s6.1), (tI s20.1), (tI s28.1), (tI x.1), (tI 0), (Ty.val (.slice none 0 0))] :: Item.blk g3 103 [(tI x.2)] :: Item.blk g2 48 [(tI 0), (tI 0), (tI 0), (tI 0), (tI 0), (Ty.val (.slice none 0 0))] :: Item.blk g1 27 [(tI a1.Params), (tI a1.Regs), Ty.any] :: L) ?_ ?_
        · refine okC_seq ?_
          refine okC_region ?_
          refine okL_step 65 (tI r17.1.Form) rfl rfl (does_move rfl) ?_
          refine okL_step 66 (tB (r17.1.Form == 4)) rfl rfl (does_eql rfl rfl) ?_
          refine okL_nil ?_
          refine okX_next ?_
          refine okC_cond (b := (r17.1.Form == 4)) rfl (fun hb45 => ?_) (fun hb45 => ?_)
          · replace h44 := ct hb45 h44
            refine okC_region ?_
            refine okL_step 67 (pAt g3 0) rfl rfl (does_move rfl) ?_
            refine okL_step 68 (pAt g1 1) rfl rfl (does_fieldAddrP 1 Tryd.underlying27 rfl Tryd.sizeOf3 rfl rfl) ?_
            refine okL_step 69 (tI a1.Regs) rfl rfl (does_loadB1 Tryd.isAgg3 rfl 4 rfl rfl) ?_
            obtain ⟨r46, hc47, h44⟩ := bs h44
            refine okL_stepO 70 rfl rfl (doesO_call0 (Item.blk g19 113 [(tS r17.1.Name), (tI r17.1.Form), (tB r17.1.ReadsA), (tB r17.1.WritesA), (tB r17.1.ReadsB), (tB r17.1.MayTrap), (tI r17.1.Words)] :: Item.blk g16 48 [(tI s6.1), (tI s20.1), (tI s28.1), (tI 0), (tI 0), (Ty.val (.slice none 0 0))] :: Item.blk g2 48 [(tI 0), (tI 0), (tI 0), (tI 0), (tI 0), (Ty.val (.slice none 0 0))] :: Item.blk g1 27 [(tI a1.Params), (tI a1.Regs), Ty.any] :: L) (c_keep2_Digits_Next (⟨s28.2⟩ : Fullingkeep2Digits) a1.Regs g3 r46 hc47) rfl Tryd.call74 rfl (pm 2 rfl (pr _)) (fun _ => ?_))
            refine okL_step 71 (pAt g16 0) rfl rfl (does_fieldAddrP 0 Tryd.underlying48 rfl Tryd.sizeOf46 rfl rfl) ?_
            refine okL_step 72 (pAt g16 3) rfl rfl (does_fieldAddrP 3 Tryd.underlying46 rfl Tryd.sizeOf3 rfl rfl) ?_
            refine okL_stepU rfl (doesO_storeB (ps := [(tI r46.1)]) 2 [(tI s6.1), (tI s20.1), (tI s28.1), (tI r46.1), (tI 0), (Ty.val (.slice none 0 0))] (Item.blk g3 103 [(tI r46.2.N)] :: Item.blk g19 113 [(tS r17.1.Name), (tI r17.1.Form), (tB r17.1.ReadsA), (tB r17.1.WritesA), (tB r17.1.ReadsB), (tB r17.1.MayTrap), (tI r17.1.Words)] :: Item.blk g16 48 [(tI s6.1), (tI s20.1), (tI s28.1), (tI r46.1), (tI 0), (Ty.val (.slice none 0 0))] :: Item.blk g2 48 [(tI 0), (tI 0), (tI 0), (tI 0), (tI 0), (Ty.val (.slice none 0 0))] :: Item.blk g1 27 [(tI a1.Params), (tI a1.Regs), Ty.any] :: L) rfl rfl (part_one (one_i _)) Tryd.sizeOf3 rfl rfl rfl rfl ?_)
            refine okL_nil ?_
            refine okX_items [] (Item.blk g19 113 [(tS r17.1.Name), (tI r17.1.Form), (tB r17.1.ReadsA), (tB r17.1.WritesA), (tB r17.1.ReadsB), (tB r17.1.MayTrap), (tI r17.1.Words)] :: Item.blk g16 48 [(tI s6.1), (tI s20.1), (tI s28.1), (tI r46.1), (tI 0), (Ty.val (.slice none 0 0))] :: Item.blk g3 103 [(tI r46.2.N)] :: Item.blk g2 48 [(tI 0), (tI 0), (tI 0), (tI 0), (tI 0), (Ty.val (.slice none 0 0))] :: Item.blk g1 27 [(tI a1.Params), (tI a1.Regs), Ty.any] :: L) (pm 1 rfl (pm 1 rfl (pm 0 rfl (pm 0 rfl (pm 0 rfl (pr _)))))) ?_
            exact okX_meet (I := _) (r46.1, r46.2.N) (smh h44) (cc rfl (cc rfl (cc rfl (cc rfl (cc rfl (cc rfl cn)))))) rfl
          · replace h44 := cf hb45 h44
            refine okC_skip ?_
            exact okX_meet (I := _) (0, s28.2) (smh h44) (cc rfl (cc rfl (cc rfl (cc rfl (cc rfl (cc rfl cn)))))) rfl
        · intro s40 hx
          change OkC _ _ _ [(0, (tI a0)), (3, (pAt g1 0)), (4, (pAt g2 0)), (5, (pAt g3 0)), (7, (tI s6.1)), (9, (pAt g16 0))] (Item.blk g19 113 [(tS r17.1.Name), (tI r17.1.Form), (tB r17.1.ReadsA), (tB r17.1.WritesA), (tB r17.1.ReadsB), (tB r17.1.MayTrap), (tI r17.1.Words)] :: Item.blk g16 48 [(tI s6.1), (tI s20.1), (tI s28.1), (tI s40.1), (tI 0), (Ty.val (.slice none 0 0))] :: Item.blk g3 103 [(tI s40.2)] :: Item.blk g2 48 [(tI 0), (tI 0), (tI 0), (tI 0), (tI 0), (Ty.val (.slice none 0 0))] :: Item.blk g1 27 [(tI a1.Params), (tI a1.Regs), Ty.any] :: L)
          obtain rfl : s40 = z42 := hx.symm
          replace h := hz43
          refine okC_nilrowB (sz := 1) lI 3 1 5 [(tI s6.1), (tI s20.1), (tI s28.1), (tI s40.1), (tI 0), (Ty.own (.slice none 0 0))] (rowL (.slice none 0 0) 3 1 lI ([] : List Int) :: Item.blk g19 113 [(tS r17.1.Name), (tI r17.1.Form), (tB r17.1.ReadsA), (tB r17.1.WritesA), (tB r17.1.ReadsB), (tB r17.1.MayTrap), (tI r17.1.Words)] :: Item.blk g16 48 [(tI s6.1), (tI s20.1), (tI s28.1), (tI s40.1), (tI 0), (Ty.own (.slice none 0 0))] :: Item.blk g3 103 [(tI s40.2)] :: Item.blk g2 48 [(tI 0), (tI 0), (tI 0), (tI 0), (tI 0), (Ty.val (.slice none 0 0))] :: Item.blk g1 27 [(tI a1.Params), (tI a1.Regs), Ty.any] :: L) rfl rfl rfl rfl ?_
          obtain ⟨z50, h52, hz51⟩ := bs h
          refine okC_meet (X := (((List Int) × Int × Int) × Value)) (fun x => z50 = x.1) (fun x : (((List Int) × Int × Int) × Value) => [(4, (pAt g2 0)), (9, (pAt g16 0))]) (fun x : (((List Int) × Int × Int) × Value) => rowL x.2 3 1 lI x.1.1 :: Item.blk g19 113 [(tS r17.1.Name), (tI r17.1.Form), (tB r17.1.ReadsA), (tB r17.1.WritesA), (tB r17.1.ReadsB), (tB r17.1.MayTrap), (tI r17.1.Words)] :: Item.blk g16 48 [(tI s6.1), (tI s20.1), (tI s28.1), (tI s40.1), (tI x.1.2.1), (Ty.own x.2)] :: Item.blk g3 103 [(tI x.1.2.2)] :: Item.blk g2 48 [(tI 0), (tI 0), (tI 0), (tI 0), (tI 0), (Ty.val (.slice none 0 0))] :: Item.blk g1 27 [(tI a1.Params), (tI a1.Regs), Ty.any] :: L) ?_ ?_
          · refine okC_seq ?_
            refine okC_region ?_
            refine okL_step 73 (tI s6.1) rfl rfl (does_move rfl) ?_
            refine okL_nil ?_
            refine okX_next ?_
            refine okC_block ?_
            refine okC_seq ?_
            refine okC_region ?_
            refine okL_step 75 (tB (s6.1 == 13)) rfl rfl (does_eql rfl rfl) ?_
            refine okL_step 74 (tB (s6.1 == 13)) rfl rfl (does_assign rfl) ?_
            refine okL_nil ?_
            refine okX_next ?_
            refine okC_cond (b := (s6.1 == 13)) rfl (fun hb53 => ?_) (fun hb53 => ?_)
            · replace h52 := ct hb53 h52
              refine okC_region ?_
              refine okL_step 76 (pAt g3 0) rfl rfl (does_move rfl) ?_
              obtain ⟨r54, hc55, h52⟩ := bs h52
              refine okL_stepO 77 rfl rfl (doesO_call0 (rowL (.slice none 0 0) 3 1 lI ([] : List Int) :: Item.blk g19 113 [(tS r17.1.Name), (tI r17.1.Form), (tB r17.1.ReadsA), (tB r17.1.WritesA), (tB r17.1.ReadsB), (tB r17.1.MayTrap), (tI r17.1.Words)] :: Item.blk g16 48 [(tI s6.1), (tI s20.1), (tI s28.1), (tI s40.1), (tI 0), (Ty.own (.slice none 0 0))] :: Item.blk g2 48 [(tI 0), (tI 0), (tI 0), (tI 0), (tI 0), (Ty.val (.slice none 0 0))] :: Item.blk g1 27 [(tI a1.Params), (tI a1.Regs), Ty.any] :: L) (c_keep2_Digits_Next (⟨s40.2⟩ : Fullingkeep2Digits) 400 g3 r54 hc55) rfl Tryd.call74 rfl (pm 3 rfl (pr _)) (fun _ => ?_))
              refine okL_step 78 (tI a0) rfl rfl (does_move rfl) ?_
              obtain ⟨r56, hc57, h52⟩ := bs h52
              refine okL_step 79 (tI r56) rfl rfl (does_call0 (c_keep_Word r54.1 a0 r56 hc57) rfl Tryd.call75 rfl) ?_
              refine okL_step 80 (pAt g16 0) rfl rfl (does_fieldAddrP 0 Tryd.underlying48 rfl Tryd.sizeOf46 rfl rfl) ?_
              refine okL_step 81 (pAt g16 4) rfl rfl (does_fieldAddrP 4 Tryd.underlying46 rfl Tryd.sizeOf2 rfl rfl) ?_
              refine okL_stepU rfl (doesO_storeB (ps := [(tI r56)]) 3 [(tI s6.1), (tI s20.1), (tI s28.1), (tI s40.1), (tI r56), (Ty.own (.slice none 0 0))] (Item.blk g3 103 [(tI r54.2.N)] :: rowL (.slice none 0 0) 3 1 lI ([] : List Int) :: Item.blk g19 113 [(tS r17.1.Name), (tI r17.1.Form), (tB r17.1.ReadsA), (tB r17.1.WritesA), (tB r17.1.ReadsB), (tB r17.1.MayTrap), (tI r17.1.Words)] :: Item.blk g16 48 [(tI s6.1), (tI s20.1), (tI s28.1), (tI s40.1), (tI r56), (Ty.own (.slice none 0 0))] :: Item.blk g2 48 [(tI 0), (tI 0), (tI 0), (tI 0), (tI 0), (Ty.val (.slice none 0 0))] :: Item.blk g1 27 [(tI a1.Params), (tI a1.Regs), Ty.any] :: L) rfl rfl (part_one (one_i _)) Tryd.sizeOf2 rfl rfl rfl rfl ?_)
              refine okL_nil ?_
              refine okX_block_normal ?_
              refine okX_items [] (rowL (.slice none 0 0) 3 1 lI ([] : List Int) :: Item.blk g19 113 [(tS r17.1.Name), (tI r17.1.Form), (tB r17.1.ReadsA), (tB r17.1.WritesA), (tB r17.1.ReadsB), (tB r17.1.MayTrap), (tI r17.1.Words)] :: Item.blk g16 48 [(tI s6.1), (tI s20.1), (tI s28.1), (tI s40.1), (tI r56), (Ty.own (.slice none 0 0))] :: Item.blk g3 103 [(tI r54.2.N)] :: Item.blk g2 48 [(tI 0), (tI 0), (tI 0), (tI 0), (tI 0), (Ty.val (.slice none 0 0))] :: Item.blk g1 27 [(tI a1.Params), (tI a1.Regs), Ty.any] :: L) (pm 1 rfl (pm 1 rfl (pm 1 rfl (pm 0 rfl (pm 0 rfl (pm 0 rfl (pr _))))))) ?_
              exact okX_meet (I := _) ((([] : List Int), r56, r54.2.N), (.slice none 0 0)) (smh h52) (cc rfl (cc rfl cn)) rfl
            · replace h52 := cf hb53 h52
              refine okC_seq ?_
              refine okC_region ?_
              refine okL_step 83 (tB (s6.1 == 33)) rfl rfl (does_eql rfl rfl) ?_
              refine okL_step 82 (tB (s6.1 == 33)) rfl rfl (does_assign rfl) ?_
              refine okL_nil ?_
              refine okX_next ?_
              refine okC_cond (b := (s6.1 == 33)) rfl (fun hb58 => ?_) (fun hb58 => ?_)
              · replace h52 := ct hb58 h52
                refine okC_region ?_
                refine okL_step 84 (pAt g3 0) rfl rfl (does_move rfl) ?_
                obtain ⟨r59, hc60, h52⟩ := bs h52
                refine okL_stepO 85 rfl rfl (doesO_call0 (rowL (.slice none 0 0) 3 1 lI ([] : List Int) :: Item.blk g19 113 [(tS r17.1.Name), (tI r17.1.Form), (tB r17.1.ReadsA), (tB r17.1.WritesA), (tB r17.1.ReadsB), (tB r17.1.MayTrap), (tI r17.1.Words)] :: Item.blk g16 48 [(tI s6.1), (tI s20.1), (tI s28.1), (tI s40.1), (tI 0), (Ty.own (.slice none 0 0))] :: Item.blk g2 48 [(tI 0), (tI 0), (tI 0), (tI 0), (tI 0), (Ty.val (.slice none 0 0))] :: Item.blk g1 27 [(tI a1.Params), (tI a1.Regs), Ty.any] :: L) (c_keep2_Digits_Next (⟨s40.2⟩ : Fullingkeep2Digits) 9 g3 r59 hc60) rfl Tryd.call74 rfl (pm 3 rfl (pr _)) (fun _ => ?_))
                refine okL_step 86 (tI (w64 (r59.1 - 4))) rfl rfl (does_sub rfl rfl) ?_
                refine okL_step 87 (pAt g16 0) rfl rfl (does_fieldAddrP 0 Tryd.underlying48 rfl Tryd.sizeOf46 rfl rfl) ?_
                refine okL_step 88 (pAt g16 4) rfl rfl (does_fieldAddrP 4 Tryd.underlying46 rfl Tryd.sizeOf2 rfl rfl) ?_
                refine okL_stepU rfl (doesO_storeB (ps := [(tI (w64 (r59.1 - 4)))]) 3 [(tI s6.1), (tI s20.1), (tI s28.1), (tI s40.1), (tI (w64 (r59.1 - 4))), (Ty.own (.slice none 0 0))] (Item.blk g3 103 [(tI r59.2.N)] :: rowL (.slice none 0 0) 3 1 lI ([] : List Int) :: Item.blk g19 113 [(tS r17.1.Name), (tI r17.1.Form), (tB r17.1.ReadsA), (tB r17.1.WritesA), (tB r17.1.ReadsB), (tB r17.1.MayTrap), (tI r17.1.Words)] :: Item.blk g16 48 [(tI s6.1), (tI s20.1), (tI s28.1), (tI s40.1), (tI (w64 (r59.1 - 4))), (Ty.own (.slice none 0 0))] :: Item.blk g2 48 [(tI 0), (tI 0), (tI 0), (tI 0), (tI 0), (Ty.val (.slice none 0 0))] :: Item.blk g1 27 [(tI a1.Params), (tI a1.Regs), Ty.any] :: L) rfl rfl (part_one (one_i _)) Tryd.sizeOf2 rfl rfl rfl rfl ?_)
                refine okL_nil ?_
                refine okX_block_normal ?_
                refine okX_items [] (rowL (.slice none 0 0) 3 1 lI ([] : List Int) :: Item.blk g19 113 [(tS r17.1.Name), (tI r17.1.Form), (tB r17.1.ReadsA), (tB r17.1.WritesA), (tB r17.1.ReadsB), (tB r17.1.MayTrap), (tI r17.1.Words)] :: Item.blk g16 48 [(tI s6.1), (tI s20.1), (tI s28.1), (tI s40.1), (tI (w64 (r59.1 - 4))), (Ty.own (.slice none 0 0))] :: Item.blk g3 103 [(tI r59.2.N)] :: Item.blk g2 48 [(tI 0), (tI 0), (tI 0), (tI 0), (tI 0), (Ty.val (.slice none 0 0))] :: Item.blk g1 27 [(tI a1.Params), (tI a1.Regs), Ty.any] :: L) (pm 1 rfl (pm 1 rfl (pm 1 rfl (pm 0 rfl (pm 0 rfl (pm 0 rfl (pr _))))))) ?_
                exact okX_meet (I := _) ((([] : List Int), (w64 (r59.1 - 4)), r59.2.N), (.slice none 0 0)) (smh h52) (cc rfl (cc rfl cn)) rfl
              · replace h52 := cf hb58 h52
                obtain ⟨z63, h65, hz64⟩ := bs h52
                refine okC_meet (X := Bool) (fun x => z63 = x) (fun x : Bool => [(3, (pAt g1 0)), (4, (pAt g2 0)), (5, (pAt g3 0)), (9, (pAt g16 0)), (73, (tI s6.1)), (89, (tB x))]) (fun x : Bool => rowL (.slice none 0 0) 3 1 lI ([] : List Int) :: Item.blk g19 113 [(tS r17.1.Name), (tI r17.1.Form), (tB r17.1.ReadsA), (tB r17.1.WritesA), (tB r17.1.ReadsB), (tB r17.1.MayTrap), (tI r17.1.Words)] :: Item.blk g16 48 [(tI s6.1), (tI s20.1), (tI s28.1), (tI s40.1), (tI 0), (Ty.own (.slice none 0 0))] :: Item.blk g3 103 [(tI s40.2)] :: Item.blk g2 48 [(tI 0), (tI 0), (tI 0), (tI 0), (tI 0), (Ty.val (.slice none 0 0))] :: Item.blk g1 27 [(tI a1.Params), (tI a1.Regs), Ty.any] :: L) ?_ ?_
                · refine okC_seq ?_
                  refine okC_region ?_
                  refine okL_step 90 (tB (s6.1 == 34)) rfl rfl (does_eql rfl rfl) ?_
                  refine okL_step 89 (tB (s6.1 == 34)) rfl rfl (does_assign rfl) ?_
                  refine okL_nil ?_
                  refine okX_next ?_
                  refine okC_cond (b := (s6.1 == 34)) rfl (fun hb66 => ?_) (fun hb66 => ?_)
                  · replace h65 := ct hb66 h65
                    refine okC_skip ?_
                    exact okX_meet (I := _) (s6.1 == 34) (smh h65) (cc rfl (cc rfl (cc rfl (cc rfl (cc rfl (cc rfl cn)))))) rfl
                  · replace h65 := cf hb66 h65
                    refine okC_region ?_
                    refine okL_step 91 (tB (s6.1 == 35)) rfl rfl (does_eql rfl rfl) ?_
                    refine okL_step 89 (tB (s6.1 == 35)) rfl rfl (does_assign rfl) ?_
                    refine okL_nil ?_
                    exact okX_meet (I := _) (s6.1 == 35) (smh h65) (cc rfl (cc rfl (cc rfl (cc rfl (cc rfl (cc rfl cn)))))) rfl
                · intro s61 hx
                  change OkC _ _ _ [(3, (pAt g1 0)), (4, (pAt g2 0)), (5, (pAt g3 0)), (9, (pAt g16 0)), (73, (tI s6.1)), (89, (tB s61))] (rowL (.slice none 0 0) 3 1 lI ([] : List Int) :: Item.blk g19 113 [(tS r17.1.Name), (tI r17.1.Form), (tB r17.1.ReadsA), (tB r17.1.WritesA), (tB r17.1.ReadsB), (tB r17.1.MayTrap), (tI r17.1.Words)] :: Item.blk g16 48 [(tI s6.1), (tI s20.1), (tI s28.1), (tI s40.1), (tI 0), (Ty.own (.slice none 0 0))] :: Item.blk g3 103 [(tI s40.2)] :: Item.blk g2 48 [(tI 0), (tI 0), (tI 0), (tI 0), (tI 0), (Ty.val (.slice none 0 0))] :: Item.blk g1 27 [(tI a1.Params), (tI a1.Regs), Ty.any] :: L)
                  obtain rfl : s61 = z63 := hx.symm
                  replace h52 := hz64
                  refine okC_cond (b := s61) rfl (fun hb67 => ?_) (fun hb67 => ?_)
                  · replace h52 := ct hb67 h52
                    refine okC_region ?_
                    refine okL_step 92 (pAt g3 0) rfl rfl (does_move rfl) ?_
                    obtain ⟨r68, hc69, h52⟩ := bs h52
                    refine okL_stepO 93 rfl rfl (doesO_call0 (rowL (.slice none 0 0) 3 1 lI ([] : List Int) :: Item.blk g19 113 [(tS r17.1.Name), (tI r17.1.Form), (tB r17.1.ReadsA), (tB r17.1.WritesA), (tB r17.1.ReadsB), (tB r17.1.MayTrap), (tI r17.1.Words)] :: Item.blk g16 48 [(tI s6.1), (tI s20.1), (tI s28.1), (tI s40.1), (tI 0), (Ty.own (.slice none 0 0))] :: Item.blk g2 48 [(tI 0), (tI 0), (tI 0), (tI 0), (tI 0), (Ty.val (.slice none 0 0))] :: Item.blk g1 27 [(tI a1.Params), (tI a1.Regs), Ty.any] :: L) (c_keep2_Digits_Next (⟨s40.2⟩ : Fullingkeep2Digits) 2 g3 r68 hc69) rfl Tryd.call74 rfl (pm 3 rfl (pr _)) (fun _ => ?_))
                    refine okL_step 94 (pAt g16 0) rfl rfl (does_fieldAddrP 0 Tryd.underlying48 rfl Tryd.sizeOf46 rfl rfl) ?_
                    refine okL_step 95 (pAt g16 4) rfl rfl (does_fieldAddrP 4 Tryd.underlying46 rfl Tryd.sizeOf2 rfl rfl) ?_
                    refine okL_stepU rfl (doesO_storeB (ps := [(tI r68.1)]) 3 [(tI s6.1), (tI s20.1), (tI s28.1), (tI s40.1), (tI r68.1), (Ty.own (.slice none 0 0))] (Item.blk g3 103 [(tI r68.2.N)] :: rowL (.slice none 0 0) 3 1 lI ([] : List Int) :: Item.blk g19 113 [(tS r17.1.Name), (tI r17.1.Form), (tB r17.1.ReadsA), (tB r17.1.WritesA), (tB r17.1.ReadsB), (tB r17.1.MayTrap), (tI r17.1.Words)] :: Item.blk g16 48 [(tI s6.1), (tI s20.1), (tI s28.1), (tI s40.1), (tI r68.1), (Ty.own (.slice none 0 0))] :: Item.blk g2 48 [(tI 0), (tI 0), (tI 0), (tI 0), (tI 0), (Ty.val (.slice none 0 0))] :: Item.blk g1 27 [(tI a1.Params), (tI a1.Regs), Ty.any] :: L) rfl rfl (part_one (one_i _)) Tryd.sizeOf2 rfl rfl rfl rfl ?_)
                    refine okL_nil ?_
                    refine okX_block_normal ?_
                    refine okX_items [] (rowL (.slice none 0 0) 3 1 lI ([] : List Int) :: Item.blk g19 113 [(tS r17.1.Name), (tI r17.1.Form), (tB r17.1.ReadsA), (tB r17.1.WritesA), (tB r17.1.ReadsB), (tB r17.1.MayTrap), (tI r17.1.Words)] :: Item.blk g16 48 [(tI s6.1), (tI s20.1), (tI s28.1), (tI s40.1), (tI r68.1), (Ty.own (.slice none 0 0))] :: Item.blk g3 103 [(tI r68.2.N)] :: Item.blk g2 48 [(tI 0), (tI 0), (tI 0), (tI 0), (tI 0), (Ty.val (.slice none 0 0))] :: Item.blk g1 27 [(tI a1.Params), (tI a1.Regs), Ty.any] :: L) (pm 1 rfl (pm 1 rfl (pm 1 rfl (pm 0 rfl (pm 0 rfl (pm 0 rfl (pr _))))))) ?_
                    exact okX_meet (I := _) ((([] : List Int), r68.1, r68.2.N), (.slice none 0 0)) (smh h52) (cc rfl (cc rfl cn)) rfl
                  · replace h52 := cf hb67 h52
                    refine okC_seq ?_
                    refine okC_region ?_
                    refine okL_step 97 (tB (s6.1 == 6)) rfl rfl (does_eql rfl rfl) ?_
                    refine okL_step 96 (tB (s6.1 == 6)) rfl rfl (does_assign rfl) ?_
                    refine okL_nil ?_
                    refine okX_next ?_
                    refine okC_cond (b := (s6.1 == 6)) rfl (fun hb70 => ?_) (fun hb70 => ?_)
                    · replace h52 := ct hb70 h52
                      refine okC_seq ?_
                      refine okC_region ?_
                      refine okL_step 98 (pAt g3 0) rfl rfl (does_move rfl) ?_
                      obtain ⟨r71, hc72, h52⟩ := bs h52
                      refine okL_stepO 99 rfl rfl (doesO_call0 (rowL (.slice none 0 0) 3 1 lI ([] : List Int) :: Item.blk g19 113 [(tS r17.1.Name), (tI r17.1.Form), (tB r17.1.ReadsA), (tB r17.1.WritesA), (tB r17.1.ReadsB), (tB r17.1.MayTrap), (tI r17.1.Words)] :: Item.blk g16 48 [(tI s6.1), (tI s20.1), (tI s28.1), (tI s40.1), (tI 0), (Ty.own (.slice none 0 0))] :: Item.blk g2 48 [(tI 0), (tI 0), (tI 0), (tI 0), (tI 0), (Ty.val (.slice none 0 0))] :: Item.blk g1 27 [(tI a1.Params), (tI a1.Regs), Ty.any] :: L) (c_keep2_Digits_Next (⟨s40.2⟩ : Fullingkeep2Digits) 2 g3 r71 hc72) rfl Tryd.call74 rfl (pm 3 rfl (pr _)) (fun _ => ?_))
                      refine okL_step 100 (pAt g16 0) rfl rfl (does_fieldAddrP 0 Tryd.underlying48 rfl Tryd.sizeOf46 rfl rfl) ?_
                      refine okL_step 101 (pAt g16 4) rfl rfl (does_fieldAddrP 4 Tryd.underlying46 rfl Tryd.sizeOf2 rfl rfl) ?_
                      refine okL_stepU rfl (doesO_storeB (ps := [(tI r71.1)]) 3 [(tI s6.1), (tI s20.1), (tI s28.1), (tI s40.1), (tI r71.1), (Ty.own (.slice none 0 0))] (Item.blk g3 103 [(tI r71.2.N)] :: rowL (.slice none 0 0) 3 1 lI ([] : List Int) :: Item.blk g19 113 [(tS r17.1.Name), (tI r17.1.Form), (tB r17.1.ReadsA), (tB r17.1.WritesA), (tB r17.1.ReadsB), (tB r17.1.MayTrap), (tI r17.1.Words)] :: Item.blk g16 48 [(tI s6.1), (tI s20.1), (tI s28.1), (tI s40.1), (tI r71.1), (Ty.own (.slice none 0 0))] :: Item.blk g2 48 [(tI 0), (tI 0), (tI 0), (tI 0), (tI 0), (Ty.val (.slice none 0 0))] :: Item.blk g1 27 [(tI a1.Params), (tI a1.Regs), Ty.any] :: L) rfl rfl (part_one (one_i _)) Tryd.sizeOf2 rfl rfl rfl rfl ?_)
                      refine okL_nil ?_
                      refine okX_next ?_
                      refine okC_seq ?_
                      refine okC_region ?_
                      refine okL_step 102 (pAt g16 0) rfl rfl (does_fieldAddrP 0 Tryd.underlying48 rfl Tryd.sizeOf46 rfl rfl) ?_
                      refine okL_step 103 (pAt g16 4) rfl rfl (does_fieldAddrP 4 Tryd.underlying46 rfl Tryd.sizeOf2 rfl rfl) ?_
                      refine okL_step 104 (tI r71.1) rfl rfl (does_loadB1 Tryd.isAgg2 rfl 3 rfl rfl) ?_
                      refine okL_step 105 (tI (w64 (2 - r71.1))) rfl rfl (does_sub rfl rfl) ?_
                      refine okL_step 13 (tI (w64 (2 - r71.1))) rfl rfl (does_assign rfl) ?_
                      refine okL_nil ?_
                      refine okX_next ?_
                      obtain ⟨z75, h77, hz76⟩ := bs h52
                      refine okC_meetE (X := ((Int × (List Int)) × Value)) (fun x => z75 = x.1) (fun x : ((Int × (List Int)) × Value) => [(4, (pAt g2 0)), (9, (pAt g16 0))]) (fun x : ((Int × (List Int)) × Value) => Item.blk g3 103 [(tI x.1.1)] :: rowL x.2 3 1 lI x.1.2 :: Item.blk g19 113 [(tS r17.1.Name), (tI r17.1.Form), (tB r17.1.ReadsA), (tB r17.1.WritesA), (tB r17.1.ReadsB), (tB r17.1.MayTrap), (tI r17.1.Words)] :: Item.blk g16 48 [(tI s6.1), (tI s20.1), (tI s28.1), (tI s40.1), (tI r71.1), (Ty.own x.2)] :: Item.blk g2 48 [(tI 0), (tI 0), (tI 0), (tI 0), (tI 0), (Ty.val (.slice none 0 0))] :: Item.blk g1 27 [(tI a1.Params), (tI a1.Regs), Ty.any] :: L) ?_ ?_
                      · refine okC_block ?_
                        refine okC_loop (X := ((Int × Int × (List Int)) × Value)) (fun k x => keep2_VInstr_l1 K a1 k x.1 = some z75) (fun x : ((Int × Int × (List Int)) × Value) => [(3, (pAt g1 0)), (4, (pAt g2 0)), (5, (pAt g3 0)), (9, (pAt g16 0)), (13, (tI x.1.1))]) (fun x : ((Int × Int × (List Int)) × Value) => Item.blk g3 103 [(tI x.1.2.1)] :: rowL x.2 3 1 lI x.1.2.2 :: Item.blk g19 113 [(tS r17.1.Name), (tI r17.1.Form), (tB r17.1.ReadsA), (tB r17.1.WritesA), (tB r17.1.ReadsB), (tB r17.1.MayTrap), (tI r17.1.Words)] :: Item.blk g16 48 [(tI s6.1), (tI s20.1), (tI s28.1), (tI s40.1), (tI r71.1), (Ty.own x.2)] :: Item.blk g2 48 [(tI 0), (tI 0), (tI 0), (tI 0), (tI 0), (Ty.val (.slice none 0 0))] :: Item.blk g1 27 [(tI a1.Params), (tI a1.Regs), Ty.any] :: L) K (((w64 (2 - r71.1)), r71.2.N, ([] : List Int)), (.slice none 0 0)) h77 (cc rfl (cc rfl (cc rfl (cc rfl (cc rfl cn))))) rfl (fun k x hI => ?_)
                        obtain ⟨s78, w79⟩ := x
                        change OkC _ _ _ [(3, (pAt g1 0)), (4, (pAt g2 0)), (5, (pAt g3 0)), (9, (pAt g16 0)), (13, (tI s78.1))] (Item.blk g3 103 [(tI s78.2.1)] :: rowL w79 3 1 lI s78.2.2 :: Item.blk g19 113 [(tS r17.1.Name), (tI r17.1.Form), (tB r17.1.ReadsA), (tB r17.1.WritesA), (tB r17.1.ReadsB), (tB r17.1.MayTrap), (tI r17.1.Words)] :: Item.blk g16 48 [(tI s6.1), (tI s20.1), (tI s28.1), (tI s40.1), (tI r71.1), (Ty.own w79)] :: Item.blk g2 48 [(tI 0), (tI 0), (tI 0), (tI 0), (tI 0), (Ty.val (.slice none 0 0))] :: Item.blk g1 27 [(tI a1.Params), (tI a1.Regs), Ty.any] :: L)
                        cases k with
                        | zero => exact (nz hI).elim
                        | succ k =>
                          have h : keep2_VInstr_l1 K a1 (k + 1) s78 = some z75 := hI
                          rw [keep2_VInstr_l1.eq_2] at h
                          refine okC_seq ?_
                          refine okC_seq ?_
                          refine okC_region ?_
                          refine okL_step 106 (tI s78.1) rfl rfl (does_move rfl) ?_
                          refine okL_step 107 (tB (decide (s78.1 > 0))) rfl rfl (does_gtr rfl rfl) ?_
                          refine okL_nil ?_
                          refine okX_next ?_
                          refine okC_cond (b := (decide (s78.1 > 0))) rfl (fun hb80 => ?_) (fun hb80 => ?_)
                          · replace h := ct hb80 h
                            refine okC_skip ?_
                            refine okX_next ?_
                            refine okC_seq ?_
                            refine okC_block ?_
                            refine okC_cov [(3, (pAt g1 0)), (4, (pAt g2 0)), (5, (pAt g3 0)), (9, (pAt g16 0)), (13, (tI s78.1))] (cc rfl (cc rfl (cc rfl (cc rfl (cc rfl cn))))) ?_
                            obtain ⟨r81, hc82, h⟩ := bs h
                            refine okC_draw 7 [some (110, (pAt g16 5)), some (111, (Ty.own w79)), some (112, (pAt g3 0)), some (113, (pAt g1 1)), some (114, (tI a1.Regs)), none, none] ⟨rowL w79 3 1 lI s78.2.2 :: Item.blk g19 113 [(tS r17.1.Name), (tI r17.1.Form), (tB r17.1.ReadsA), (tB r17.1.WritesA), (tB r17.1.ReadsB), (tB r17.1.MayTrap), (tI r17.1.Words)] :: Item.blk g16 48 [(tI s6.1), (tI s20.1), (tI s28.1), (tI s40.1), (tI r71.1), (Ty.own w79)] :: Item.blk g2 48 [(tI 0), (tI 0), (tI 0), (tI 0), (tI 0), (Ty.val (.slice none 0 0))] :: Item.blk g1 27 [(tI a1.Params), (tI a1.Regs), Ty.any] :: ([] : List Item), Item.blk g3 103 [(tI s78.2.1)] :: rowL w79 3 1 lI s78.2.2 :: Item.blk g19 113 [(tS r17.1.Name), (tI r17.1.Form), (tB r17.1.ReadsA), (tB r17.1.WritesA), (tB r17.1.ReadsB), (tB r17.1.MayTrap), (tI r17.1.Words)] :: Item.blk g16 48 [(tI s6.1), (tI s20.1), (tI s28.1), (tI s40.1), (tI r71.1), (Ty.own w79)] :: Item.blk g2 48 [(tI 0), (tI 0), (tI 0), (tI 0), (tI 0), (Ty.val (.slice none 0 0))] :: Item.blk g1 27 [(tI a1.Params), (tI a1.Regs), Ty.any] :: ([] : List Item), [5]⟩ [5, 6] mixed rfl rfl (by kernel_rfl) rfl (by kernel_rfl) rfl rfl rfl (fun _ h => List.Sublist.subset (.cons _ (.cons_cons _ (.cons_cons _ (.cons_cons _ (.cons_cons _ (.cons_cons _ (List.nil_sublist _))))))) h) (fun _ h => List.Sublist.subset (.cons_cons _ (.cons_cons _ (.cons_cons _ (.cons_cons _ (.cons_cons _ (.cons_cons _ (List.nil_sublist _))))))) h) rfl (by kernel_rfl) (.inr ⟨by kernel_rfl, by kernel_rfl⟩) (by kernel_rfl) (by kernel_rfl) (dc (draw_plain rfl (does_fieldAddrP 5 Tryd.underlying48 rfl Tryd.sizeOf31 rfl rfl)) (dc (draw_plain rfl (does_loadB1 Tryd.isAgg31 rfl 2 rfl rfl)) (dc (draw_plain rfl (does_move rfl)) (dc (draw_plain rfl (does_fieldAddrP 1 Tryd.underlying27 rfl Tryd.sizeOf3 rfl rfl)) (dc (draw_plain rfl (does_loadB1 Tryd.isAgg3 rfl 4 rfl rfl)) (ds (ds (dn)))))))) ?_
                            refine ch_step [5] rfl (ap_cons (ch_at _ rfl rfl (doesO_call0 (rowL w79 3 1 lI s78.2.2 :: Item.blk g19 113 [(tS r17.1.Name), (tI r17.1.Form), (tB r17.1.ReadsA), (tB r17.1.WritesA), (tB r17.1.ReadsB), (tB r17.1.MayTrap), (tI r17.1.Words)] :: Item.blk g16 48 [(tI s6.1), (tI s20.1), (tI s28.1), (tI s40.1), (tI r71.1), (Ty.own w79)] :: Item.blk g2 48 [(tI 0), (tI 0), (tI 0), (tI 0), (tI 0), (Ty.val (.slice none 0 0))] :: Item.blk g1 27 [(tI a1.Params), (tI a1.Regs), Ty.any] :: L) (c_keep2_Digits_Next (⟨s78.2.1⟩ : Fullingkeep2Digits) a1.Regs g3 r81 hc82) rfl Tryd.call74 rfl (pm 0 rfl (pr _)) (fun _ => ?_))) (ap_nil))
                            refine ⟨⟨(fun _ h => List.Sublist.subset (.cons _ (.cons_cons _ (.cons_cons _ (.cons_cons _ (.cons_cons _ (.cons_cons _ (List.nil_sublist _))))))) h), .inl rfl⟩, ?_⟩
                            refine ch_step [6] rfl (ap_cons (ch_at _ rfl rfl (doesO_of (does_buildSlice (f := lI) ([r81.1] : List Int) [(tI r81.1)] el31 rfl rfl rfl (fc [(tI r81.1)] 0 rfl (part_one (one_i _)) rfl rfl (fn_ rfl)) rfl (fun _ => rfl)) ?_)) (ap_nil))
                            refine ⟨⟨(fun _ h => List.Sublist.subset (.cons _ (.cons_cons _ (.cons_cons _ (.cons_cons _ (.cons_cons _ (.cons_cons _ (List.nil_sublist _))))))) h), .inl rfl⟩, ?_⟩
                            refine ch_end ?_
                            change OkL _ _ _ _ [(110, (pAt g16 5)), (111, (Ty.own w79)), (112, (pAt g3 0)), (113, (pAt g1 1)), (114, (tI a1.Regs)), (116, (tL 1 lI ([r81.1] : List Int))), (115, (tI r81.1)), (3, (pAt g1 0)), (4, (pAt g2 0)), (5, (pAt g3 0)), (9, (pAt g16 0)), (13, (tI s78.1))] (Item.blk g3 103 [(tI r81.2.N)] :: rowL w79 3 1 lI s78.2.2 :: Item.blk g19 113 [(tS r17.1.Name), (tI r17.1.Form), (tB r17.1.ReadsA), (tB r17.1.WritesA), (tB r17.1.ReadsB), (tB r17.1.MayTrap), (tI r17.1.Words)] :: Item.blk g16 48 [(tI s6.1), (tI s20.1), (tI s28.1), (tI s40.1), (tI r71.1), (Ty.own w79)] :: Item.blk g2 48 [(tI 0), (tI 0), (tI 0), (tI 0), (tI 0), (Ty.val (.slice none 0 0))] :: Item.blk g1 27 [(tI a1.Params), (tI a1.Regs), Ty.any] :: L)
                            obtain ⟨l83, ha84, h⟩ := bs h
                            refine okL_stepO 117 rfl rfl (doesO_append (f := lI) (l := s78.2.2) (m := ([r81.1] : List Int)) el31 1 l83 (fun v85 => Item.blk g3 103 [(tI r81.2.N)] :: rowL v85 3 1 lI l83 :: Item.blk g19 113 [(tS r17.1.Name), (tI r17.1.Form), (tB r17.1.ReadsA), (tB r17.1.WritesA), (tB r17.1.ReadsB), (tB r17.1.MayTrap), (tI r17.1.Words)] :: Item.blk g16 48 [(tI s6.1), (tI s20.1), (tI s28.1), (tI s40.1), (tI r71.1), (Ty.own w79)] :: Item.blk g2 48 [(tI 0), (tI 0), (tI 0), (tI 0), (tI 0), (Ty.val (.slice none 0 0))] :: Item.blk g1 27 [(tI a1.Params), (tI a1.Regs), Ty.any] :: L) ha84 rfl rfl rfl (fun _ => rfl) (fun v85 => ?_))
                            refine okL_step 118 (pAt g16 5) rfl rfl (does_fieldAddrP 5 Tryd.underlying48 rfl Tryd.sizeOf31 rfl rfl) ?_
                            refine okL_stepU rfl (doesO_storeB (ps := [(Ty.own v85)]) 3 [(tI s6.1), (tI s20.1), (tI s28.1), (tI s40.1), (tI r71.1), (Ty.own v85)] (Item.blk g3 103 [(tI r81.2.N)] :: rowL v85 3 1 lI l83 :: Item.blk g19 113 [(tS r17.1.Name), (tI r17.1.Form), (tB r17.1.ReadsA), (tB r17.1.WritesA), (tB r17.1.ReadsB), (tB r17.1.MayTrap), (tI r17.1.Words)] :: Item.blk g16 48 [(tI s6.1), (tI s20.1), (tI s28.1), (tI s40.1), (tI r71.1), (Ty.own v85)] :: Item.blk g2 48 [(tI 0), (tI 0), (tI 0), (tI 0), (tI 0), (Ty.val (.slice none 0 0))] :: Item.blk g1 27 [(tI a1.Params), (tI a1.Regs), Ty.any] :: L) rfl rfl (part_one (one_own _)) Tryd.sizeOf31 rfl rfl rfl rfl ?_)
                            refine okL_nil ?_
                            refine okX_block_normal ?_
                            refine okX_next ?_
                            refine okC_region ?_
                            refine okL_step 108 (tI s78.1) rfl rfl (does_move rfl) ?_
                            refine okL_step 109 (tI (w64 (s78.1 - 1))) rfl rfl (does_sub rfl rfl) ?_
                            refine okL_step 13 (tI (w64 (s78.1 - 1))) rfl rfl (does_assign rfl) ?_
                            refine okL_nil ?_
                            exact okX_again k (Nat.lt_succ_self k) (((w64 (s78.1 - 1)), r81.2.N, l83), v85) h (cc rfl (cc rfl (cc rfl (cc rfl (cc rfl cn))))) rfl
                          · replace h := cf hb80 h
                            refine okC_exit ?_
                            refine okX_then_exit ?_
                            refine okX_again_exit ?_
                            refine okX_block_hit ?_
                            exact okX_meet (I := _) ((s78.2.1, s78.2.2), w79) (smh h) (cc rfl (cc rfl cn)) rfl
                      · intro x hx
                        obtain ⟨s73, w74⟩ := x
                        change OkX _ _ _ [(4, (pAt g2 0)), (9, (pAt g16 0))] (Item.blk g3 103 [(tI s73.1)] :: rowL w74 3 1 lI s73.2 :: Item.blk g19 113 [(tS r17.1.Name), (tI r17.1.Form), (tB r17.1.ReadsA), (tB r17.1.WritesA), (tB r17.1.ReadsB), (tB r17.1.MayTrap), (tI r17.1.Words)] :: Item.blk g16 48 [(tI s6.1), (tI s20.1), (tI s28.1), (tI s40.1), (tI r71.1), (Ty.own w74)] :: Item.blk g2 48 [(tI 0), (tI 0), (tI 0), (tI 0), (tI 0), (Ty.val (.slice none 0 0))] :: Item.blk g1 27 [(tI a1.Params), (tI a1.Regs), Ty.any] :: L)
                        obtain rfl : s73 = z75 := hx.symm
                        replace h52 := hz76
                        refine okX_block_normal ?_
                        refine okX_items [] (rowL w74 3 1 lI s73.2 :: Item.blk g19 113 [(tS r17.1.Name), (tI r17.1.Form), (tB r17.1.ReadsA), (tB r17.1.WritesA), (tB r17.1.ReadsB), (tB r17.1.MayTrap), (tI r17.1.Words)] :: Item.blk g16 48 [(tI s6.1), (tI s20.1), (tI s28.1), (tI s40.1), (tI r71.1), (Ty.own w74)] :: Item.blk g3 103 [(tI s73.1)] :: Item.blk g2 48 [(tI 0), (tI 0), (tI 0), (tI 0), (tI 0), (Ty.val (.slice none 0 0))] :: Item.blk g1 27 [(tI a1.Params), (tI a1.Regs), Ty.any] :: L) (pm 1 rfl (pm 1 rfl (pm 1 rfl (pm 0 rfl (pm 0 rfl (pm 0 rfl (pr _))))))) ?_
                        exact okX_meet (I := _) ((s73.2, r71.1, s73.1), w74) (smh h52) (cc rfl (cc rfl cn)) rfl
                    · replace h52 := cf hb70 h52
                      refine okC_skip ?_
                      refine okX_block_normal ?_
                      exact okX_meet (I := _) ((([] : List Int), 0, s40.2), (.slice none 0 0)) (smh h52) (cc rfl (cc rfl cn)) rfl
          · intro x hx
            obtain ⟨s48, w49⟩ := x
            change OkC _ _ _ [(4, (pAt g2 0)), (9, (pAt g16 0))] (rowL w49 3 1 lI s48.1 :: Item.blk g19 113 [(tS r17.1.Name), (tI r17.1.Form), (tB r17.1.ReadsA), (tB r17.1.WritesA), (tB r17.1.ReadsB), (tB r17.1.MayTrap), (tI r17.1.Words)] :: Item.blk g16 48 [(tI s6.1), (tI s20.1), (tI s28.1), (tI s40.1), (tI s48.2.1), (Ty.own w49)] :: Item.blk g3 103 [(tI s48.2.2)] :: Item.blk g2 48 [(tI 0), (tI 0), (tI 0), (tI 0), (tI 0), (Ty.val (.slice none 0 0))] :: Item.blk g1 27 [(tI a1.Params), (tI a1.Regs), Ty.any] :: L)
            obtain rfl : s48 = z50 := hx.symm
            replace h := hz51
            refine okC_seq ?_
            refine okC_region ?_
            refine okL_publishB 5 [] [(tI s6.1), (tI s20.1), (tI s28.1), (tI s40.1), (tI s48.2.1), (tL 1 lI s48.1)] (pm 0 rfl (pm 1 rfl (pr _))) rfl an rfl ?_
            refine okL_step 119 (Ty.agg [(tI s6.1), (tI s20.1), (tI s28.1), (tI s40.1), (tI s48.2.1), (tL 1 lI s48.1)]) rfl rfl (does_loadBA [(tI s6.1), (tI s20.1), (tI s28.1), (tI s40.1), (tI s48.2.1), (tL 1 lI s48.1)] Tryd.isAgg48 Tryd.sizeOf48 rfl 0 rfl rfl rfl) ?_
            refine okL_stepU rfl (doesO_storeB (ps := [(tI s6.1), (tI s20.1), (tI s28.1), (tI s40.1), (tI s48.2.1), (tL 1 lI s48.1)]) 3 [(tI s6.1), (tI s20.1), (tI s28.1), (tI s40.1), (tI s48.2.1), (tL 1 lI s48.1)] (Item.blk g16 48 [(tI s6.1), (tI s20.1), (tI s28.1), (tI s40.1), (tI s48.2.1), (tL 1 lI s48.1)] :: Item.blk g19 113 [(tS r17.1.Name), (tI r17.1.Form), (tB r17.1.ReadsA), (tB r17.1.WritesA), (tB r17.1.ReadsB), (tB r17.1.MayTrap), (tI r17.1.Words)] :: Item.blk g3 103 [(tI s48.2.2)] :: Item.blk g2 48 [(tI s6.1), (tI s20.1), (tI s28.1), (tI s40.1), (tI s48.2.1), (tL 1 lI s48.1)] :: Item.blk g1 27 [(tI a1.Params), (tI a1.Regs), Ty.any] :: L) rfl rfl (part_agg _) Tryd.sizeOf48 rfl rfl rfl rfl ?_)
            refine okL_nil ?_
            refine okX_next ?_
            refine okC_ret ?_
            obtain rfl := (smh h).symm
            exact okX_retC () Tryd.results57 rfl 3 rfl Tryd.isAgg48 Tryd.sizeOf48 rfl rfl [Item.blk g16 48 [(tI s6.1), (tI s20.1), (tI s28.1), (tI s40.1), (tI s48.2.1), (tL 1 lI s48.1)], Item.blk g19 113 [(tS r17.1.Name), (tI r17.1.Form), (tB r17.1.ReadsA), (tB r17.1.WritesA), (tB r17.1.ReadsB), (tB r17.1.MayTrap), (tI r17.1.Words)], Item.blk g3 103 [(tI s48.2.2)], Item.blk g2 48 [(tI s6.1), (tI s20.1), (tI s28.1), (tI s40.1), (tI s48.2.1), (tL 1 lI s48.1)], Item.blk g1 27 [(tI a1.Params), (tI a1.Regs), Ty.any]] (pm 0 rfl (pm 0 rfl (pm 0 rfl (pm 0 rfl (pm 0 rfl (pr _))))))

def ref32_LiveBlocks_l3 (K : Nat) (s24 : (Bool × Int × (List (List Int)) × (List (List Int)))) (r29 : (List Int)) : Nat → ((List Int) × Int) → Option (List Int)
  | 0, _ => none
  | k + 1, s36 => (cnd (decide (s36.2 < ((r29).length : Int))) (Option.bind (idx r29 s36.2) (fun y39 => (Option.bind (idx s24.2.2.2 y39) (fun y41 => (Option.bind (ref32_Union K s36.1 y41) (fun r43 => (ref32_LiveBlocks_l3 K s24 r29 k (r43, (w64 (s36.2 + 1)))))))))) (some s36.1))

def ref32_LiveBlocks_l2 (K : Nat) (a0 : VFunc) : Nat → (Bool × Int × (List (List Int)) × (List (List Int))) → Option (Bool × (List (List Int)) × (List (List Int)))
  | 0, _ => none
  | k + 1, s24 => (cnd (decide (s24.2.1 ≥ 0)) (Option.bind (idx a0.Blocks s24.2.1) (fun y27 => (Option.bind (ref32_Successors K y27) (fun r29 => (Option.bind (ref32_LiveBlocks_l3 K s24 r29 K (([] : List Int), 0)) (fun s31 => (Option.bind (idx a0.Blocks s24.2.1) (fun y45 => (Option.bind (ref32_livePoints K y45 s31) (fun r47 => (Option.bind (idx r47 0) (fun y49 => (Option.bind (cnd s24.1 (some true) (Option.bind (idx s24.2.2.1 s24.2.1) (fun y56 => (some (((s31).length : Int) != ((y56).length : Int)))))) (fun x55 => (Option.bind (cnd x55 (some true) (Option.bind (idx s24.2.2.2 s24.2.1) (fun y63 => (some (((y49).length : Int) != ((y63).length : Int)))))) (fun x62 => (Option.bind (idx s24.2.2.2 s24.2.1) (fun y65 => (Option.bind (idx s24.2.2.1 s24.2.1) (fun y67 => (ref32_LiveBlocks_l2 K a0 k (x62, (w64 (s24.2.1 - 1)), (s24.2.2.1.set s24.2.1.toNat s31), (s24.2.2.2.set s24.2.1.toNat y49))))))))))))))))))))))) (some (s24.1, s24.2.2.1, s24.2.2.2)))

def ref32_LiveBlocks_l1 (K : Nat) (a0 : VFunc) : Nat → (Bool × (List (List Int)) × (List (List Int))) → Option ((List (List Int)) × (List (List Int)))
  | 0, _ => none
  | k + 1, s16 => (cnd s16.1 (Option.bind (ref32_LiveBlocks_l2 K a0 K (false, (w64 (((a0.Blocks).length : Int) - 1)), s16.2.1, s16.2.2)) (fun s19 => (ref32_LiveBlocks_l1 K a0 k (s19.1, s19.2.1, s19.2.2)))) (some (s16.2.1, s16.2.2)))

def ref32_LiveBlocks (K : Nat) (a0 : VFunc) : Option ((List (List Int)) × (List (List Int))) :=
  (Option.bind (ref32_Valid K a0) (fun r2 => (cnd (!r2) (some (([] : List (List Int)), ([] : List (List Int)))) (Option.bind (mk 24 ((a0.Blocks).length : Int) ([] : List Int)) (fun l5 => (Option.bind (mk 24 ((a0.Blocks).length : Int) ([] : List Int)) (fun l8 => (Option.bind (ref32_LiveBlocks_l1 K a0 K (true, l8, l5)) (fun s11 => (some (s11.2, s11.1)))))))))))

end Go.Proofs.YtocfnpnnbmicmaaDoor.Tc
