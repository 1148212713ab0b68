/- Written by gen.py: for each Go function a pure Lean function, and that the Go code comes to what it says. -/
import Derived.Test.YtocfnpnnbmicmaaDoorXAc3
set_option linter.unusedVariables false
set_option maxRecDepth 8000
set_option maxHeartbeats 4000000
namespace Go.Proofs.YtocfnpnnbmicmaaDoor.Tc
open Go Go.RowKit

def alloccheck_Sound_l1 (K : Nat) (a0 : VFunc) (a1 : Allocation) : Nat → Int → Option (Unit ⊕ Bool)
  | 0, _ => none
  | k + 1, s19 => (cnd (decide (s19 < ((a1.Locations).length : Int))) (Option.bind (idx a1.Locations s19) (fun y22 => (Option.bind (cnd y22.InSlot (some (a0.Params, a1.Slots)) (some (0, 5))) (fun s25 => (cnd ((decide (y22.Index < s25.1)) || (decide (y22.Index ≥ s25.2))) (out (some false)) (alloccheck_Sound_l1 K a0 a1 k (w64 (s19 + 1)))))))) (inn ()))

def alloccheck_Sound_l3 (K : Nat) (a1 : Allocation) (s41 : Int) (y44 : (List Int)) : Nat → Int → Option (Unit ⊕ (Unit ⊕ Bool))
  | 0, _ => none
  | k + 1, s51 => (cnd (decide (s51 < ((y44).length : Int))) (Option.bind (idx y44 s51) (fun y54 => (Option.bind (idx a1.Locations s41) (fun y56 => (Option.bind (idx a1.Locations y54) (fun y58 => (cnd ((y56.InSlot == y58.InSlot) && (y56.Index == y58.Index)) (out (out (some false))) (alloccheck_Sound_l3 K a1 s41 y44 k (w64 (s51 + 1)))))))))) (inn ()))

def alloccheck_Sound_l2 (K : Nat) (a1 : Allocation) (r34 : (List (List Int))) : Nat → Int → Option (Unit ⊕ Bool)
  | 0, _ => none
  | k + 1, s41 => (cnd (decide (s41 < ((r34).length : Int))) (Option.bind (idx r34 s41) (fun y44 => (sq (alloccheck_Sound_l3 K a1 s41 y44 K 0) (fun s46 => (alloccheck_Sound_l2 K a1 r34 k (w64 (s41 + 1))))))) (inn ()))

def alloccheck_Sound_l4 (K : Nat) (a1 : Allocation) (r61 : (List Int)) : Nat → Int → Option (Unit ⊕ Bool)
  | 0, _ => none
  | k + 1, s68 => (cnd (decide (s68 < ((r61).length : Int))) (Option.bind (idx r61 s68) (fun y71 => (Option.bind (idx a1.Locations y71) (fun y73 => (cnd (!y73.InSlot) (out (some false)) (alloccheck_Sound_l4 K a1 r61 k (w64 (s68 + 1)))))))) (inn ()))

def alloccheck_Sound (K : Nat) (a0 : VFunc) (a1 : Allocation) : Option Bool :=
  (Option.bind (vcode_Valid K a0) (fun r3 => (cnd ((((!r3) || (((a1.Locations).length : Int) != a0.Regs)) || (decide (a1.Slots < a0.Params))) || (decide (a1.Slots > 3000))) (some false) (Option.bind (liveness_Blocks K a0) (fun r9 => (Option.bind (idx r9.1 0) (fun y11 => (cnd (decide (((y11).length : Int) > 0)) (some false) (sq (alloccheck_Sound_l1 K a0 a1 K 0) (fun s14 => (Option.bind (regalloc_Interference K a0) (fun r34 => (sq (alloccheck_Sound_l2 K a1 r34 K 0) (fun s36 => (Option.bind (liveness_AcrossCalls K a0) (fun r61 => (sq (alloccheck_Sound_l4 K a1 r61 K 0) (fun s63 => (some true)))))))))))))))))))

theorem c_alloccheck_Sound (K : Nat) (a0 : VFunc) (a1 : Allocation) (r : Bool) (h : alloccheck_Sound K a0 a1 = some r) : CallP Tryd.prog glob 47 [(Ty.agg [(tI a0.Params), (tI a0.Regs), (tL 5 Block.ty a0.Blocks)]), (Ty.agg [(tL 2 Location.ty a1.Locations), (tL 5 Spill.ty a1.Spills), (tI a1.Slots)])] (tB r) := by
  refine call_of_code Tryd.func47 rfl Tryd.ntmps47 rfl (fun L w => ?_)
  change OkC _ _ _ [(0, (Ty.agg [(tI a0.Params), (tI a0.Regs), (tL 5 Block.ty a0.Blocks)])), (1, (Ty.agg [(tL 2 Location.ty a1.Locations), (tL 5 Spill.ty a1.Spills), (tI a1.Slots)]))] (L)
  unfold alloccheck_Sound at h
  refine okC_seq ?_
  refine okC_region ?_
  refine okL_stepO 2 rfl rfl (doesO_box [(tI a0.Params), (tI a0.Regs), (tL 5 Block.ty a0.Blocks)] rfl (part_agg _) (fun g1 => ?_))
  refine okL_stepO 3 rfl rfl (doesO_box [(tL 2 Location.ty a1.Locations), (tL 5 Spill.ty a1.Spills), (tI a1.Slots)] rfl (part_agg _) (fun g2 => ?_))
  refine okL_step 4 (tB false) rfl rfl (does_assign rfl) ?_
  refine okL_nil ?_
  refine okX_next ?_
  refine okC_seq ?_
  refine okC_seq ?_
  refine okC_region ?_
  refine okL_step 17 (Ty.agg [(tI a0.Params), (tI a0.Regs), (tL 5 Block.ty a0.Blocks)]) rfl rfl (does_loadBA [(tI a0.Params), (tI a0.Regs), (tL 5 Block.ty a0.Blocks)] Tryd.isAgg27 Tryd.sizeOf27 rfl 1 rfl rfl rfl) ?_
  obtain ⟨r3, hc4, h⟩ := bs h
  refine okL_step 18 (tB r3) rfl rfl (does_call0 (c_vcode_Valid K a0 r3 hc4) rfl Tryd.call63 rfl) ?_
  refine okL_step 19 (tB (!r3)) rfl rfl (does_not rfl) ?_
  refine okL_step 20 (tB (!r3)) rfl rfl (does_move rfl) ?_
  refine okL_meet (X := Bool) 7 (fun x => x = ((!r3) || (((a1.Locations).length : Int) != a0.Regs))) (fun x : Bool => [(2, (pAt g1 0)), (3, (pAt g2 0)), (27, (tB x))]) (fun x : Bool => Item.blk g2 66 [(tL 2 Location.ty a1.Locations), (tL 5 Spill.ty a1.Spills), (tI a1.Slots)] :: Item.blk g1 27 [(tI a0.Params), (tI a0.Regs), (tL 5 Block.ty a0.Blocks)] :: L) _ rfl ?_ ?_
  · refine okL_split (!r3) (fun hb5 => ?_) (fun hb5 => ?_)
    · refine okL_skip 21 20 (!r3) rfl rfl hb5 rfl rfl ?_
      refine okL_skip 22 20 (!r3) rfl rfl hb5 rfl rfl ?_
      refine okL_skip 23 20 (!r3) rfl rfl hb5 rfl rfl ?_
      refine okL_skip 24 20 (!r3) rfl rfl hb5 rfl rfl ?_
      refine okL_skip 25 20 (!r3) rfl rfl hb5 rfl rfl ?_
      refine okL_skip 26 20 (!r3) rfl rfl hb5 rfl rfl ?_
      refine okL_step 27 (tB true) rfl rfl (does_pick_t (!r3) rfl hb5 rfl) ?_
      refine okL_nil ?_
      exact okX_meet (I := _) true (or_t hb5) (cc rfl (cc rfl (cc rfl cn))) rfl
    · refine okL_guard 21 (pAt g2 0) 20 (!r3) rfl rfl hb5 rfl rfl (does_fieldAddrP 0 Tryd.underlying66 rfl Tryd.sizeOf63 rfl rfl) ?_
      refine okL_guard 22 (tL 2 Location.ty a1.Locations) 20 (!r3) rfl rfl hb5 rfl rfl (does_loadB1 Tryd.isAgg63 rfl 0 rfl rfl) ?_
      refine okL_guard 23 (tI ((a1.Locations).length : Int)) 20 (!r3) rfl rfl hb5 rfl rfl (does_len (sz := 2) (f := Location.ty) (l := a1.Locations) rfl Tryd.underlying63 rfl) ?_
      refine okL_guard 24 (pAt g1 1) 20 (!r3) rfl rfl hb5 rfl rfl (does_fieldAddrP 1 Tryd.underlying27 rfl Tryd.sizeOf3 rfl rfl) ?_
      refine okL_guard 25 (tI a0.Regs) 20 (!r3) rfl rfl hb5 rfl rfl (does_loadB1 Tryd.isAgg3 rfl 1 rfl rfl) ?_
      refine okL_guard 26 (tB (((a1.Locations).length : Int) != a0.Regs)) 20 (!r3) rfl rfl hb5 rfl rfl (does_neq rfl rfl) ?_
      refine okL_step 27 (tB (((a1.Locations).length : Int) != a0.Regs)) rfl rfl (does_pick_f (!r3) rfl hb5 rfl) ?_
      refine okL_nil ?_
      exact okX_meet (I := _) (((a1.Locations).length : Int) != a0.Regs) (or_f hb5) (cc rfl (cc rfl (cc rfl cn))) rfl
  · intro x78 hx
    subst hx
    change OkL _ _ _ _ [(2, (pAt g1 0)), (3, (pAt g2 0)), (27, (tB ((!r3) || (((a1.Locations).length : Int) != a0.Regs))))] (Item.blk g2 66 [(tL 2 Location.ty a1.Locations), (tL 5 Spill.ty a1.Spills), (tI a1.Slots)] :: Item.blk g1 27 [(tI a0.Params), (tI a0.Regs), (tL 5 Block.ty a0.Blocks)] :: L)
    refine okL_step 28 (tB ((!r3) || (((a1.Locations).length : Int) != a0.Regs))) rfl rfl (does_move rfl) ?_
    refine okL_meet (X := Bool) 6 (fun x => x = (((!r3) || (((a1.Locations).length : Int) != a0.Regs)) || (decide (a1.Slots < a0.Params)))) (fun x : Bool => [(2, (pAt g1 0)), (3, (pAt g2 0)), (34, (tB x))]) (fun x : Bool => Item.blk g2 66 [(tL 2 Location.ty a1.Locations), (tL 5 Spill.ty a1.Spills), (tI a1.Slots)] :: Item.blk g1 27 [(tI a0.Params), (tI a0.Regs), (tL 5 Block.ty a0.Blocks)] :: L) _ rfl ?_ ?_
    · refine okL_split ((!r3) || (((a1.Locations).length : Int) != a0.Regs)) (fun hb6 => ?_) (fun hb6 => ?_)
      · refine okL_skip 29 28 ((!r3) || (((a1.Locations).length : Int) != a0.Regs)) rfl rfl hb6 rfl rfl ?_
        refine okL_skip 30 28 ((!r3) || (((a1.Locations).length : Int) != a0.Regs)) rfl rfl hb6 rfl rfl ?_
        refine okL_skip 31 28 ((!r3) || (((a1.Locations).length : Int) != a0.Regs)) rfl rfl hb6 rfl rfl ?_
        refine okL_skip 32 28 ((!r3) || (((a1.Locations).length : Int) != a0.Regs)) rfl rfl hb6 rfl rfl ?_
        refine okL_skip 33 28 ((!r3) || (((a1.Locations).length : Int) != a0.Regs)) rfl rfl hb6 rfl rfl ?_
        refine okL_step 34 (tB true) rfl rfl (does_pick_t ((!r3) || (((a1.Locations).length : Int) != a0.Regs)) rfl hb6 rfl) ?_
        refine okL_nil ?_
        exact okX_meet (I := _) true (or_t hb6) (cc rfl (cc rfl (cc rfl cn))) rfl
      · refine okL_guard 29 (pAt g2 2) 28 ((!r3) || (((a1.Locations).length : Int) != a0.Regs)) rfl rfl hb6 rfl rfl (does_fieldAddrP 2 Tryd.underlying66 rfl Tryd.sizeOf3 rfl rfl) ?_
        refine okL_guard 30 (tI a1.Slots) 28 ((!r3) || (((a1.Locations).length : Int) != a0.Regs)) rfl rfl hb6 rfl rfl (does_loadB1 Tryd.isAgg3 rfl 0 rfl rfl) ?_
        refine okL_guard 31 (pAt g1 0) 28 ((!r3) || (((a1.Locations).length : Int) != a0.Regs)) rfl rfl hb6 rfl rfl (does_fieldAddrP 0 Tryd.underlying27 rfl Tryd.sizeOf3 rfl rfl) ?_
        refine okL_guard 32 (tI a0.Params) 28 ((!r3) || (((a1.Locations).length : Int) != a0.Regs)) rfl rfl hb6 rfl rfl (does_loadB1 Tryd.isAgg3 rfl 1 rfl rfl) ?_
        refine okL_guard 33 (tB (decide (a1.Slots < a0.Params))) 28 ((!r3) || (((a1.Locations).length : Int) != a0.Regs)) rfl rfl hb6 rfl rfl (does_lss rfl rfl) ?_
        refine okL_step 34 (tB (decide (a1.Slots < a0.Params))) rfl rfl (does_pick_f ((!r3) || (((a1.Locations).length : Int) != a0.Regs)) rfl hb6 rfl) ?_
        refine okL_nil ?_
        exact okX_meet (I := _) (decide (a1.Slots < a0.Params)) (or_f hb6) (cc rfl (cc rfl (cc rfl cn))) rfl
    · intro x77 hx
      subst hx
      change OkL _ _ _ _ [(2, (pAt g1 0)), (3, (pAt g2 0)), (34, (tB (((!r3) || (((a1.Locations).length : Int) != a0.Regs)) || (decide (a1.Slots < a0.Params)))))] (Item.blk g2 66 [(tL 2 Location.ty a1.Locations), (tL 5 Spill.ty a1.Spills), (tI a1.Slots)] :: Item.blk g1 27 [(tI a0.Params), (tI a0.Regs), (tL 5 Block.ty a0.Blocks)] :: L)
      refine okL_step 35 (tB (((!r3) || (((a1.Locations).length : Int) != a0.Regs)) || (decide (a1.Slots < a0.Params)))) rfl rfl (does_move rfl) ?_
      refine okL_meet (X := Bool) 4 (fun x => x = ((((!r3) || (((a1.Locations).length : Int) != a0.Regs)) || (decide (a1.Slots < a0.Params))) || (decide (a1.Slots > 3000)))) (fun x : Bool => [(2, (pAt g1 0)), (3, (pAt g2 0)), (39, (tB x))]) (fun x : Bool => Item.blk g2 66 [(tL 2 Location.ty a1.Locations), (tL 5 Spill.ty a1.Spills), (tI a1.Slots)] :: Item.blk g1 27 [(tI a0.Params), (tI a0.Regs), (tL 5 Block.ty a0.Blocks)] :: L) _ rfl ?_ ?_
      · refine okL_split (((!r3) || (((a1.Locations).length : Int) != a0.Regs)) || (decide (a1.Slots < a0.Params))) (fun hb7 => ?_) (fun hb7 => ?_)
        · refine okL_skip 36 35 (((!r3) || (((a1.Locations).length : Int) != a0.Regs)) || (decide (a1.Slots < a0.Params))) rfl rfl hb7 rfl rfl ?_
          refine okL_skip 37 35 (((!r3) || (((a1.Locations).length : Int) != a0.Regs)) || (decide (a1.Slots < a0.Params))) rfl rfl hb7 rfl rfl ?_
          refine okL_skip 38 35 (((!r3) || (((a1.Locations).length : Int) != a0.Regs)) || (decide (a1.Slots < a0.Params))) rfl rfl hb7 rfl rfl ?_
          refine okL_step 39 (tB true) rfl rfl (does_pick_t (((!r3) || (((a1.Locations).length : Int) != a0.Regs)) || (decide (a1.Slots < a0.Params))) rfl hb7 rfl) ?_
          refine okL_nil ?_
          exact okX_meet (I := _) true (or_t hb7) (cc rfl (cc rfl (cc rfl cn))) rfl
        · refine okL_guard 36 (pAt g2 2) 35 (((!r3) || (((a1.Locations).length : Int) != a0.Regs)) || (decide (a1.Slots < a0.Params))) rfl rfl hb7 rfl rfl (does_fieldAddrP 2 Tryd.underlying66 rfl Tryd.sizeOf3 rfl rfl) ?_
          refine okL_guard 37 (tI a1.Slots) 35 (((!r3) || (((a1.Locations).length : Int) != a0.Regs)) || (decide (a1.Slots < a0.Params))) rfl rfl hb7 rfl rfl (does_loadB1 Tryd.isAgg3 rfl 0 rfl rfl) ?_
          refine okL_guard 38 (tB (decide (a1.Slots > 3000))) 35 (((!r3) || (((a1.Locations).length : Int) != a0.Regs)) || (decide (a1.Slots < a0.Params))) rfl rfl hb7 rfl rfl (does_gtr rfl rfl) ?_
          refine okL_step 39 (tB (decide (a1.Slots > 3000))) rfl rfl (does_pick_f (((!r3) || (((a1.Locations).length : Int) != a0.Regs)) || (decide (a1.Slots < a0.Params))) rfl hb7 rfl) ?_
          refine okL_nil ?_
          exact okX_meet (I := _) (decide (a1.Slots > 3000)) (or_f hb7) (cc rfl (cc rfl (cc rfl cn))) rfl
      · intro x76 hx
        subst hx
        change OkL _ _ _ _ [(2, (pAt g1 0)), (3, (pAt g2 0)), (39, (tB ((((!r3) || (((a1.Locations).length : Int) != a0.Regs)) || (decide (a1.Slots < a0.Params))) || (decide (a1.Slots > 3000)))))] (Item.blk g2 66 [(tL 2 Location.ty a1.Locations), (tL 5 Spill.ty a1.Spills), (tI a1.Slots)] :: Item.blk g1 27 [(tI a0.Params), (tI a0.Regs), (tL 5 Block.ty a0.Blocks)] :: L)
        refine okL_nil ?_
        refine okX_next ?_
        refine okC_cond (b := ((((!r3) || (((a1.Locations).length : Int) != a0.Regs)) || (decide (a1.Slots < a0.Params))) || (decide (a1.Slots > 3000)))) rfl (fun hb8 => ?_) (fun hb8 => ?_)
        · replace h := ct hb8 h
          refine okC_seq ?_
          refine okC_region ?_
          refine okL_step 4 (tB false) rfl rfl (does_assign rfl) ?_
          refine okL_nil ?_
          refine okX_next ?_
          refine okC_ret ?_
          refine okX_then_ret ?_
          obtain rfl := (smh h).symm
          refine okX_items [Item.blk g2 66 [(tL 2 Location.ty a1.Locations), (tL 5 Spill.ty a1.Spills), (tI a1.Slots)], Item.blk g1 27 [(tI a0.Params), (tI a0.Regs), (tL 5 Block.ty a0.Blocks)]] (L) (pm 0 rfl (pm 0 rfl (pr _))) ?_
          exact okX_ret1 () Tryd.results47 rfl rfl
        · replace h := cf hb8 h
          refine okC_skip ?_
          refine okX_next ?_
          refine okC_seq ?_
          refine okC_seq ?_
          refine okC_region ?_
          refine okL_step 41 (Ty.agg [(tI a0.Params), (tI a0.Regs), (tL 5 Block.ty a0.Blocks)]) rfl rfl (does_loadBA [(tI a0.Params), (tI a0.Regs), (tL 5 Block.ty a0.Blocks)] Tryd.isAgg27 Tryd.sizeOf27 rfl 1 rfl rfl rfl) ?_
          obtain ⟨r9, hc10, h⟩ := bs h
          refine okL_step 42 (Ty.tup [(tL 1 lIs r9.1), (tL 1 lIs r9.2)]) rfl rfl (does_call0 (c_liveness_Blocks K a0 r9 hc10) rfl Tryd.call22 rfl) ?_
          refine okL_step 40 (Ty.tup [(tL 1 lIs r9.1), (tL 1 lIs r9.2)]) rfl rfl (does_move rfl) ?_
          refine okL_step 43 (tL 1 lIs r9.1) rfl rfl (does_extract rfl rfl) ?_
          refine okL_step 44 (tL 1 lIs r9.2) rfl rfl (does_extract rfl rfl) ?_
          refine okL_step 5 (tL 1 lIs r9.1) rfl rfl (does_assign rfl) ?_
          refine okL_step 6 (tL 1 lIs r9.2) rfl rfl (does_assign rfl) ?_
          refine okL_nil ?_
          refine okX_next ?_
          refine okC_seq ?_
          refine okC_region ?_
          refine okL_step 45 (tL 1 lIs r9.1) rfl rfl (does_move rfl) ?_
          obtain ⟨y11, hi12, h⟩ := bs h
          refine okL_step 46 (Ty.ptr [(tL 1 lI y11)]) rfl rfl (does_index (sz := 1) (f := lIs) (l := r9.1) (n := 0) y11 Tryd.underlying22 Tryd.sizeOf31 hi12 rfl rfl) ?_
          refine okL_step 47 (tL 1 lI y11) rfl rfl (does_load1 Tryd.isAgg31 rfl) ?_
          refine okL_step 48 (tI ((y11).length : Int)) rfl rfl (does_len (sz := 1) (f := lI) (l := y11) rfl Tryd.underlying31 rfl) ?_
          refine okL_step 49 (tB (decide (((y11).length : Int) > 0))) rfl rfl (does_gtr rfl rfl) ?_
          refine okL_nil ?_
          refine okX_next ?_
          refine okC_cond (b := (decide (((y11).length : Int) > 0))) rfl (fun hb13 => ?_) (fun hb13 => ?_)
          · replace h := ct hb13 h
            refine okC_seq ?_
            refine okC_region ?_
            refine okL_step 4 (tB false) rfl rfl (does_assign rfl) ?_
            refine okL_nil ?_
            refine okX_next ?_
            refine okC_ret ?_
            refine okX_then_ret ?_
            obtain rfl := (smh h).symm
            refine okX_items [Item.blk g2 66 [(tL 2 Location.ty a1.Locations), (tL 5 Spill.ty a1.Spills), (tI a1.Slots)], Item.blk g1 27 [(tI a0.Params), (tI a0.Regs), (tL 5 Block.ty a0.Blocks)]] (L) (pm 0 rfl (pm 0 rfl (pr _))) ?_
            exact okX_ret1 () Tryd.results47 rfl rfl
          · replace h := cf hb13 h
            refine okC_skip ?_
            refine okX_next ?_
            refine okC_seq ?_
            refine okC_seq ?_
            refine okC_region ?_
            refine okL_step 50 (pAt g2 0) rfl rfl (does_fieldAddrP 0 Tryd.underlying66 rfl Tryd.sizeOf63 rfl rfl) ?_
            refine okL_step 51 (tL 2 Location.ty a1.Locations) rfl rfl (does_loadB1 Tryd.isAgg63 rfl 0 rfl rfl) ?_
            refine okL_step 52 (tI ((a1.Locations).length : Int)) rfl rfl (does_len (sz := 2) (f := Location.ty) (l := a1.Locations) rfl Tryd.underlying63 rfl) ?_
            refine okL_step 53 (tI 0) rfl rfl (does_move rfl) ?_
            refine okL_nil ?_
            refine okX_next ?_
            obtain ⟨z16, h18, hz17⟩ := sqs h
            refine okC_meetE (X := Unit) (fun x => z16 = .inl x) (fun x : Unit => [(2, (pAt g1 0)), (3, (pAt g2 0))]) (fun x : Unit => Item.blk g2 66 [(tL 2 Location.ty a1.Locations), (tL 5 Spill.ty a1.Spills), (tI a1.Slots)] :: Item.blk g1 27 [(tI a0.Params), (tI a0.Regs), (tL 5 Block.ty a0.Blocks)] :: L) ?_ ?_
            · refine okC_block ?_
              refine okC_loop (X := Int) (fun k x => alloccheck_Sound_l1 K a0 a1 k x = some z16) (fun x : Int => [(2, (pAt g1 0)), (3, (pAt g2 0)), (51, (tL 2 Location.ty a1.Locations)), (52, (tI ((a1.Locations).length : Int))), (53, (tI x))]) (fun x : Int => Item.blk g2 66 [(tL 2 Location.ty a1.Locations), (tL 5 Spill.ty a1.Spills), (tI a1.Slots)] :: Item.blk g1 27 [(tI a0.Params), (tI a0.Regs), (tL 5 Block.ty a0.Blocks)] :: L) K 0 h18 (cc rfl (cc rfl (cc rfl (cc rfl (cc rfl cn))))) rfl (fun k s19 hI => ?_)
              change OkC _ _ _ [(2, (pAt g1 0)), (3, (pAt g2 0)), (51, (tL 2 Location.ty a1.Locations)), (52, (tI ((a1.Locations).length : Int))), (53, (tI s19))] (Item.blk g2 66 [(tL 2 Location.ty a1.Locations), (tL 5 Spill.ty a1.Spills), (tI a1.Slots)] :: Item.blk g1 27 [(tI a0.Params), (tI a0.Regs), (tL 5 Block.ty a0.Blocks)] :: L)
              cases k with
              | zero => exact (nz hI).elim
              | succ k =>
                have h : alloccheck_Sound_l1 K a0 a1 (k + 1) s19 = some z16 := hI
                rw [alloccheck_Sound_l1.eq_2] at h
                refine okC_seq ?_
                refine okC_region ?_
                refine okL_step 54 (tB (decide (s19 < ((a1.Locations).length : Int)))) rfl rfl (does_lss rfl rfl) ?_
                refine okL_nil ?_
                refine okX_next ?_
                refine okC_seq ?_
                refine okC_cond (b := (decide (s19 < ((a1.Locations).length : Int)))) rfl (fun hb21 => ?_) (fun hb21 => ?_)
                · replace h := ct hb21 h
                  refine okC_skip ?_
                  refine okX_next ?_
                  refine okC_seq ?_
                  refine okC_block ?_
                  refine okC_seq ?_
                  refine okC_region ?_
                  obtain ⟨y22, hi23, h⟩ := bs h
                  refine okL_step 55 (Ty.ptr [(tB y22.InSlot), (tI y22.Index)]) rfl rfl (does_index (sz := 2) (f := Location.ty) (l := a1.Locations) (n := s19) y22 Tryd.underlying63 Tryd.sizeOf72 hi23 rfl rfl) ?_
                  refine okL_step 56 (Ty.agg [(tB y22.InSlot), (tI y22.Index)]) rfl rfl (does_loadA [(tB y22.InSlot), (tI y22.Index)] Tryd.isAgg72 Tryd.sizeOf72 rfl rfl rfl) ?_
                  refine okL_stepO 8 rfl rfl (doesO_alloc [(tB false), (tI 0)] Tryd.zeroValue72 (part_of (sub_agg [(.bool false), (.int .i64 0)] rfl) (part_agg _)) (fun g24 => ?_))
                  refine okL_stepU rfl (doesO_storeB (ps := [(tB y22.InSlot), (tI y22.Index)]) 0 [(tB y22.InSlot), (tI y22.Index)] (Item.blk g24 72 [(tB y22.InSlot), (tI y22.Index)] :: Item.blk g2 66 [(tL 2 Location.ty a1.Locations), (tL 5 Spill.ty a1.Spills), (tI a1.Slots)] :: Item.blk g1 27 [(tI a0.Params), (tI a0.Regs), (tL 5 Block.ty a0.Blocks)] :: L) rfl rfl (part_agg _) Tryd.sizeOf72 rfl rfl rfl rfl ?_)
                  refine okL_nil ?_
                  refine okX_next ?_
                  refine okC_seq ?_
                  refine okC_region ?_
                  refine okL_step 9 (tI 0) rfl rfl (does_assign rfl) ?_
                  refine okL_step 10 (tI 5) rfl rfl (does_assign rfl) ?_
                  refine okL_nil ?_
                  refine okX_next ?_
                  obtain ⟨z27, h29, hz28⟩ := bs h
                  refine okC_meet (X := (Int × Int)) (fun x => z27 = x) (fun x : (Int × Int) => [(2, (pAt g1 0)), (3, (pAt g2 0)), (8, (pAt g24 0)), (9, (tI x.1)), (10, (tI x.2)), (51, (tL 2 Location.ty a1.Locations)), (52, (tI ((a1.Locations).length : Int))), (53, (tI s19))]) (fun x : (Int × Int) => Item.blk g24 72 [(tB y22.InSlot), (tI y22.Index)] :: Item.blk g2 66 [(tL 2 Location.ty a1.Locations), (tL 5 Spill.ty a1.Spills), (tI a1.Slots)] :: Item.blk g1 27 [(tI a0.Params), (tI a0.Regs), (tL 5 Block.ty a0.Blocks)] :: L) ?_ ?_
                  · refine okC_seq ?_
                    refine okC_region ?_
                    refine okL_step 57 (pAt g24 0) rfl rfl (does_fieldAddrP 0 Tryd.underlying72 rfl Tryd.sizeOf4 rfl rfl) ?_
                    refine okL_step 58 (tB y22.InSlot) rfl rfl (does_loadB1 Tryd.isAgg4 rfl 0 rfl rfl) ?_
                    refine okL_nil ?_
                    refine okX_next ?_
                    refine okC_cond (b := y22.InSlot) rfl (fun hb30 => ?_) (fun hb30 => ?_)
                    · replace h29 := ct hb30 h29
                      refine okC_cov [(2, (pAt g1 0)), (3, (pAt g2 0)), (8, (pAt g24 0)), (10, (tI 5)), (51, (tL 2 Location.ty a1.Locations)), (52, (tI ((a1.Locations).length : Int))), (53, (tI s19))] (cc rfl (cc rfl (cc rfl (cc rfl (cc rfl (cc rfl (cc rfl cn))))))) ?_
                      refine okC_draw 5 [some (59, (pAt g1 0)), some (60, (tI a0.Params)), some (61, (pAt g2 2)), some (62, (tI a1.Slots)), some (9, (tI a0.Params))] ⟨Item.blk g24 72 [(tB y22.InSlot), (tI y22.Index)] :: Item.blk g2 66 [(tL 2 Location.ty a1.Locations), (tL 5 Spill.ty a1.Spills), (tI a1.Slots)] :: Item.blk g1 27 [(tI a0.Params), (tI a0.Regs), (tL 5 Block.ty a0.Blocks)] :: ([] : List Item), Item.blk g24 72 [(tB y22.InSlot), (tI y22.Index)] :: Item.blk g2 66 [(tL 2 Location.ty a1.Locations), (tL 5 Spill.ty a1.Spills), (tI a1.Slots)] :: Item.blk g1 27 [(tI a0.Params), (tI a0.Regs), (tL 5 Block.ty a0.Blocks)] :: ([] : List Item), []⟩ [] mixed rfl rfl (by kernel_rfl) rfl (by kernel_rfl) rfl rfl rfl (fun _ h => List.Sublist.subset (.cons_cons _ (.cons_cons _ (.cons_cons _ (List.nil_sublist _)))) h) (fun _ h => List.Sublist.subset (.cons_cons _ (.cons_cons _ (.cons_cons _ (List.nil_sublist _)))) h) rfl (by kernel_rfl) (.inr ⟨by kernel_rfl, by kernel_rfl⟩) (by kernel_rfl) (by kernel_rfl) (dc (draw_plain rfl (does_fieldAddrP 0 Tryd.underlying27 rfl Tryd.sizeOf3 rfl rfl)) (dc (draw_plain rfl (does_loadB1 Tryd.isAgg3 rfl 2 rfl rfl)) (dc (draw_plain rfl (does_fieldAddrP 2 Tryd.underlying66 rfl Tryd.sizeOf3 rfl rfl)) (dc (draw_plain rfl (does_loadB1 Tryd.isAgg3 rfl 1 rfl rfl)) (dc (draw_plain rfl (does_assign rfl)) (dn)))))) ?_
                      refine ch_end ?_
                      change OkL _ _ _ _ [(59, (pAt g1 0)), (60, (tI a0.Params)), (61, (pAt g2 2)), (62, (tI a1.Slots)), (9, (tI a0.Params)), (2, (pAt g1 0)), (3, (pAt g2 0)), (8, (pAt g24 0)), (10, (tI 5)), (51, (tL 2 Location.ty a1.Locations)), (52, (tI ((a1.Locations).length : Int))), (53, (tI s19))] (Item.blk g24 72 [(tB y22.InSlot), (tI y22.Index)] :: Item.blk g2 66 [(tL 2 Location.ty a1.Locations), (tL 5 Spill.ty a1.Spills), (tI a1.Slots)] :: Item.blk g1 27 [(tI a0.Params), (tI a0.Regs), (tL 5 Block.ty a0.Blocks)] :: L)
                      refine okL_step 10 (tI a1.Slots) rfl rfl (does_assign rfl) ?_
                      refine okL_nil ?_
                      exact okX_meet (I := _) (a0.Params, a1.Slots) (smh h29) (cc rfl (cc rfl (cc rfl (cc rfl (cc rfl (cc rfl (cc rfl (cc rfl cn)))))))) rfl
                    · replace h29 := cf hb30 h29
                      refine okC_skip ?_
                      exact okX_meet (I := _) (0, 5) (smh h29) (cc rfl (cc rfl (cc rfl (cc rfl (cc rfl (cc rfl (cc rfl (cc rfl cn)))))))) rfl
                  · intro s25 hx
                    change OkC _ _ _ [(2, (pAt g1 0)), (3, (pAt g2 0)), (8, (pAt g24 0)), (9, (tI s25.1)), (10, (tI s25.2)), (51, (tL 2 Location.ty a1.Locations)), (52, (tI ((a1.Locations).length : Int))), (53, (tI s19))] (Item.blk g24 72 [(tB y22.InSlot), (tI y22.Index)] :: Item.blk g2 66 [(tL 2 Location.ty a1.Locations), (tL 5 Spill.ty a1.Spills), (tI a1.Slots)] :: Item.blk g1 27 [(tI a0.Params), (tI a0.Regs), (tL 5 Block.ty a0.Blocks)] :: L)
                    obtain rfl : s25 = z27 := hx.symm
                    replace h := hz28
                    refine okC_seq ?_
                    refine okC_region ?_
                    refine okL_step 63 (pAt g24 1) rfl rfl (does_fieldAddrP 1 Tryd.underlying72 rfl Tryd.sizeOf3 rfl rfl) ?_
                    refine okL_step 64 (tI y22.Index) rfl rfl (does_loadB1 Tryd.isAgg3 rfl 0 rfl rfl) ?_
                    refine okL_step 65 (tI s25.1) rfl rfl (does_move rfl) ?_
                    refine okL_step 66 (tB (decide (y22.Index < s25.1))) rfl rfl (does_lss rfl rfl) ?_
                    refine okL_step 67 (tB (decide (y22.Index < s25.1))) rfl rfl (does_move rfl) ?_
                    refine okL_meet (X := Bool) 5 (fun x => x = ((decide (y22.Index < s25.1)) || (decide (y22.Index ≥ s25.2)))) (fun x : Bool => [(2, (pAt g1 0)), (3, (pAt g2 0)), (51, (tL 2 Location.ty a1.Locations)), (52, (tI ((a1.Locations).length : Int))), (53, (tI s19)), (72, (tB x))]) (fun x : Bool => Item.blk g24 72 [(tB y22.InSlot), (tI y22.Index)] :: Item.blk g2 66 [(tL 2 Location.ty a1.Locations), (tL 5 Spill.ty a1.Spills), (tI a1.Slots)] :: Item.blk g1 27 [(tI a0.Params), (tI a0.Regs), (tL 5 Block.ty a0.Blocks)] :: L) _ rfl ?_ ?_
                    · refine okL_split (decide (y22.Index < s25.1)) (fun hb31 => ?_) (fun hb31 => ?_)
                      · refine okL_skip 68 67 (decide (y22.Index < s25.1)) rfl rfl hb31 rfl rfl ?_
                        refine okL_skip 69 67 (decide (y22.Index < s25.1)) rfl rfl hb31 rfl rfl ?_
                        refine okL_skip 70 67 (decide (y22.Index < s25.1)) rfl rfl hb31 rfl rfl ?_
                        refine okL_skip 71 67 (decide (y22.Index < s25.1)) rfl rfl hb31 rfl rfl ?_
                        refine okL_step 72 (tB true) rfl rfl (does_pick_t (decide (y22.Index < s25.1)) rfl hb31 rfl) ?_
                        refine okL_nil ?_
                        exact okX_meet (I := _) true (or_t hb31) (cc rfl (cc rfl (cc rfl (cc rfl (cc rfl (cc rfl cn)))))) rfl
                      · refine okL_guard 68 (pAt g24 1) 67 (decide (y22.Index < s25.1)) rfl rfl hb31 rfl rfl (does_fieldAddrP 1 Tryd.underlying72 rfl Tryd.sizeOf3 rfl rfl) ?_
                        refine okL_guard 69 (tI y22.Index) 67 (decide (y22.Index < s25.1)) rfl rfl hb31 rfl rfl (does_loadB1 Tryd.isAgg3 rfl 0 rfl rfl) ?_
                        refine okL_guard 70 (tI s25.2) 67 (decide (y22.Index < s25.1)) rfl rfl hb31 rfl rfl (does_move rfl) ?_
                        refine okL_guard 71 (tB (decide (y22.Index ≥ s25.2))) 67 (decide (y22.Index < s25.1)) rfl rfl hb31 rfl rfl (does_geq rfl rfl) ?_
                        refine okL_step 72 (tB (decide (y22.Index ≥ s25.2))) rfl rfl (does_pick_f (decide (y22.Index < s25.1)) rfl hb31 rfl) ?_
                        refine okL_nil ?_
                        exact okX_meet (I := _) (decide (y22.Index ≥ s25.2)) (or_f hb31) (cc rfl (cc rfl (cc rfl (cc rfl (cc rfl (cc rfl cn)))))) rfl
                    · intro x33 hx
                      subst hx
                      change OkL _ _ _ _ [(2, (pAt g1 0)), (3, (pAt g2 0)), (51, (tL 2 Location.ty a1.Locations)), (52, (tI ((a1.Locations).length : Int))), (53, (tI s19)), (72, (tB ((decide (y22.Index < s25.1)) || (decide (y22.Index ≥ s25.2)))))] (Item.blk g24 72 [(tB y22.InSlot), (tI y22.Index)] :: Item.blk g2 66 [(tL 2 Location.ty a1.Locations), (tL 5 Spill.ty a1.Spills), (tI a1.Slots)] :: Item.blk g1 27 [(tI a0.Params), (tI a0.Regs), (tL 5 Block.ty a0.Blocks)] :: L)
                      refine okL_nil ?_
                      refine okX_next ?_
                      refine okC_cond (b := ((decide (y22.Index < s25.1)) || (decide (y22.Index ≥ s25.2)))) rfl (fun hb32 => ?_) (fun hb32 => ?_)
                      · replace h := ct hb32 h
                        refine okC_seq ?_
                        refine okC_region ?_
                        refine okL_step 4 (tB false) rfl rfl (does_assign rfl) ?_
                        refine okL_nil ?_
                        refine okX_next ?_
                        refine okC_ret ?_
                        refine okX_block_ret ?_
                        refine okX_then_ret ?_
                        refine okX_again_ret ?_
                        refine okX_block_ret ?_
                        refine okX_meet_ret ?_
                        replace h := outh h hz17
                        refine okX_then_ret ?_
                        obtain rfl := (smh h).symm
                        refine okX_items [Item.blk g24 72 [(tB y22.InSlot), (tI y22.Index)], Item.blk g2 66 [(tL 2 Location.ty a1.Locations), (tL 5 Spill.ty a1.Spills), (tI a1.Slots)], Item.blk g1 27 [(tI a0.Params), (tI a0.Regs), (tL 5 Block.ty a0.Blocks)]] (L) (pm 0 rfl (pm 0 rfl (pm 0 rfl (pr _)))) ?_
                        exact okX_ret1 () Tryd.results47 rfl rfl
                      · replace h := cf hb32 h
                        refine okC_skip ?_
                        refine okX_block_normal ?_
                        refine okX_next ?_
                        refine okC_region ?_
                        refine okL_step 73 (tI (w64 (s19 + 1))) rfl rfl (does_add rfl rfl) ?_
                        refine okL_step 53 (tI (w64 (s19 + 1))) rfl rfl (does_move rfl) ?_
                        refine okL_nil ?_
                        refine okX_items [Item.blk g24 72 [(tB y22.InSlot), (tI y22.Index)]] (Item.blk g2 66 [(tL 2 Location.ty a1.Locations), (tL 5 Spill.ty a1.Spills), (tI a1.Slots)] :: Item.blk g1 27 [(tI a0.Params), (tI a0.Regs), (tL 5 Block.ty a0.Blocks)] :: L) (pm 0 rfl (pm 0 rfl (pm 0 rfl (pr _)))) ?_
                        exact okX_again k (Nat.lt_succ_self k) (w64 (s19 + 1)) h (cc rfl (cc rfl (cc rfl (cc rfl (cc rfl cn))))) rfl
                · replace h := cf hb21 h
                  refine okC_exit ?_
                  refine okX_then_exit ?_
                  refine okX_again_exit ?_
                  refine okX_block_hit ?_
                  exact okX_meet (I := _) () (innh h) (cc rfl (cc rfl cn)) rfl
            · intro s14 hx
              change OkX _ _ _ [(2, (pAt g1 0)), (3, (pAt g2 0))] (Item.blk g2 66 [(tL 2 Location.ty a1.Locations), (tL 5 Spill.ty a1.Spills), (tI a1.Slots)] :: Item.blk g1 27 [(tI a0.Params), (tI a0.Regs), (tL 5 Block.ty a0.Blocks)] :: L)
              have hx : z16 = .inl s14 := hx
              subst hx
              replace h := hz17
              refine okX_next ?_
              refine okC_seq ?_
              refine okC_seq ?_
              refine okC_region ?_
              refine okL_step 74 (Ty.agg [(tI a0.Params), (tI a0.Regs), (tL 5 Block.ty a0.Blocks)]) rfl rfl (does_loadBA [(tI a0.Params), (tI a0.Regs), (tL 5 Block.ty a0.Blocks)] Tryd.isAgg27 Tryd.sizeOf27 rfl 1 rfl rfl rfl) ?_
              obtain ⟨r34, hc35, h⟩ := bs h
              refine okL_step 75 (tL 1 lIs r34) rfl rfl (does_call0 (c_regalloc_Interference K a0 r34 hc35) rfl Tryd.call53 rfl) ?_
              refine okL_step 76 (tI ((r34).length : Int)) rfl rfl (does_len (sz := 1) (f := lIs) (l := r34) rfl Tryd.underlying22 rfl) ?_
              refine okL_step 77 (tI 0) rfl rfl (does_move rfl) ?_
              refine okL_nil ?_
              refine okX_next ?_
              obtain ⟨z38, h40, hz39⟩ := sqs h
              refine okC_meetE (X := Unit) (fun x => z38 = .inl x) (fun x : Unit => [(2, (pAt g1 0)), (3, (pAt g2 0))]) (fun x : Unit => Item.blk g2 66 [(tL 2 Location.ty a1.Locations), (tL 5 Spill.ty a1.Spills), (tI a1.Slots)] :: Item.blk g1 27 [(tI a0.Params), (tI a0.Regs), (tL 5 Block.ty a0.Blocks)] :: L) ?_ ?_
              · refine okC_block ?_
                refine okC_loop (X := Int) (fun k x => alloccheck_Sound_l2 K a1 r34 k x = some z38) (fun x : Int => [(2, (pAt g1 0)), (3, (pAt g2 0)), (75, (tL 1 lIs r34)), (76, (tI ((r34).length : Int))), (77, (tI x))]) (fun x : Int => Item.blk g2 66 [(tL 2 Location.ty a1.Locations), (tL 5 Spill.ty a1.Spills), (tI a1.Slots)] :: Item.blk g1 27 [(tI a0.Params), (tI a0.Regs), (tL 5 Block.ty a0.Blocks)] :: L) K 0 h40 (cc rfl (cc rfl (cc rfl (cc rfl (cc rfl cn))))) rfl (fun k s41 hI => ?_)
                change OkC _ _ _ [(2, (pAt g1 0)), (3, (pAt g2 0)), (75, (tL 1 lIs r34)), (76, (tI ((r34).length : Int))), (77, (tI s41))] (Item.blk g2 66 [(tL 2 Location.ty a1.Locations), (tL 5 Spill.ty a1.Spills), (tI a1.Slots)] :: Item.blk g1 27 [(tI a0.Params), (tI a0.Regs), (tL 5 Block.ty a0.Blocks)] :: L)
                cases k with
                | zero => exact (nz hI).elim
                | succ k =>
                  have h : alloccheck_Sound_l2 K a1 r34 (k + 1) s41 = some z38 := hI
                  rw [alloccheck_Sound_l2.eq_2] at h
                  refine okC_seq ?_
                  refine okC_region ?_
                  refine okL_step 78 (tB (decide (s41 < ((r34).length : Int)))) rfl rfl (does_lss rfl rfl) ?_
                  refine okL_nil ?_
                  refine okX_next ?_
                  refine okC_seq ?_
                  refine okC_cond (b := (decide (s41 < ((r34).length : Int)))) rfl (fun hb43 => ?_) (fun hb43 => ?_)
                  · replace h := ct hb43 h
                    refine okC_skip ?_
                    refine okX_next ?_
                    refine okC_seq ?_
                    refine okC_block ?_
                    refine okC_seq ?_
                    refine okC_region ?_
                    refine okL_step 79 (tI s41) rfl rfl (does_move rfl) ?_
                    obtain ⟨y44, hi45, h⟩ := bs h
                    refine okL_step 80 (Ty.ptr [(tL 1 lI y44)]) rfl rfl (does_index (sz := 1) (f := lIs) (l := r34) (n := s41) y44 Tryd.underlying22 Tryd.sizeOf31 hi45 rfl rfl) ?_
                    refine okL_step 81 (tL 1 lI y44) rfl rfl (does_load1 Tryd.isAgg31 rfl) ?_
                    refine okL_step 11 (tI s41) rfl rfl (does_assign rfl) ?_
                    refine okL_step 12 (tL 1 lI y44) rfl rfl (does_assign rfl) ?_
                    refine okL_nil ?_
                    refine okX_next ?_
                    refine okC_seq ?_
                    refine okC_region ?_
                    refine okL_step 82 (tL 1 lI y44) rfl rfl (does_move rfl) ?_
                    refine okL_step 83 (tI ((y44).length : Int)) rfl rfl (does_len (sz := 1) (f := lI) (l := y44) rfl Tryd.underlying31 rfl) ?_
                    refine okL_step 84 (tI 0) rfl rfl (does_move rfl) ?_
                    refine okL_nil ?_
                    refine okX_next ?_
                    obtain ⟨z48, h50, hz49⟩ := sqs h
                    refine okC_meetE (X := Unit) (fun x => z48 = .inl x) (fun x : Unit => [(2, (pAt g1 0)), (3, (pAt g2 0)), (75, (tL 1 lIs r34)), (76, (tI ((r34).length : Int))), (77, (tI s41))]) (fun x : Unit => Item.blk g2 66 [(tL 2 Location.ty a1.Locations), (tL 5 Spill.ty a1.Spills), (tI a1.Slots)] :: Item.blk g1 27 [(tI a0.Params), (tI a0.Regs), (tL 5 Block.ty a0.Blocks)] :: L) ?_ ?_
                    · refine okC_block ?_
                      refine okC_loop (X := Int) (fun k x => alloccheck_Sound_l3 K a1 s41 y44 k x = some z48) (fun x : Int => [(2, (pAt g1 0)), (3, (pAt g2 0)), (11, (tI s41)), (75, (tL 1 lIs r34)), (76, (tI ((r34).length : Int))), (77, (tI s41)), (82, (tL 1 lI y44)), (83, (tI ((y44).length : Int))), (84, (tI x))]) (fun x : Int => Item.blk g2 66 [(tL 2 Location.ty a1.Locations), (tL 5 Spill.ty a1.Spills), (tI a1.Slots)] :: Item.blk g1 27 [(tI a0.Params), (tI a0.Regs), (tL 5 Block.ty a0.Blocks)] :: L) K 0 h50 (cc rfl (cc rfl (cc rfl (cc rfl (cc rfl (cc rfl (cc rfl (cc rfl (cc rfl cn))))))))) rfl (fun k s51 hI => ?_)
                      change OkC _ _ _ [(2, (pAt g1 0)), (3, (pAt g2 0)), (11, (tI s41)), (75, (tL 1 lIs r34)), (76, (tI ((r34).length : Int))), (77, (tI s41)), (82, (tL 1 lI y44)), (83, (tI ((y44).length : Int))), (84, (tI s51))] (Item.blk g2 66 [(tL 2 Location.ty a1.Locations), (tL 5 Spill.ty a1.Spills), (tI a1.Slots)] :: Item.blk g1 27 [(tI a0.Params), (tI a0.Regs), (tL 5 Block.ty a0.Blocks)] :: L)
                      cases k with
                      | zero => exact (nz hI).elim
                      | succ k =>
                        have h : alloccheck_Sound_l3 K a1 s41 y44 (k + 1) s51 = some z48 := hI
                        rw [alloccheck_Sound_l3.eq_2] at h
                        refine okC_seq ?_
                        refine okC_region ?_
                        refine okL_step 85 (tB (decide (s51 < ((y44).length : Int)))) rfl rfl (does_lss rfl rfl) ?_
                        refine okL_nil ?_
                        refine okX_next ?_
                        refine okC_seq ?_
                        refine okC_cond (b := (decide (s51 < ((y44).length : Int)))) rfl (fun hb53 => ?_) (fun hb53 => ?_)
                        · replace h := ct hb53 h
                          refine okC_skip ?_
                          refine okX_next ?_
                          refine okC_seq ?_
                          refine okC_block ?_
                          refine okC_seq ?_
                          refine okC_region ?_
                          obtain ⟨y54, hi55, h⟩ := bs h
                          refine okL_step 86 (Ty.ptr [(tI y54)]) rfl rfl (does_index (sz := 1) (f := lI) (l := y44) (n := s51) y54 Tryd.underlying31 Tryd.sizeOf3 hi55 rfl rfl) ?_
                          refine okL_step 87 (tI y54) rfl rfl (does_load1 Tryd.isAgg3 rfl) ?_
                          refine okL_step 14 (tI y54) rfl rfl (does_assign rfl) ?_
                          refine okL_nil ?_
                          refine okX_next ?_
                          refine okC_seq ?_
                          refine okC_cov [(2, (pAt g1 0)), (3, (pAt g2 0)), (11, (tI s41)), (14, (tI y54)), (75, (tL 1 lIs r34)), (76, (tI ((r34).length : Int))), (77, (tI s41)), (82, (tL 1 lI y44)), (83, (tI ((y44).length : Int))), (84, (tI s51))] (cc rfl (cc rfl (cc rfl (cc rfl (cc rfl (cc rfl (cc rfl (cc rfl (cc rfl (cc rfl cn)))))))))) ?_
                          obtain ⟨y56, hi57, h⟩ := bs h
                          obtain ⟨y58, hi59, h⟩ := bs h
                          refine okC_draw 10 [some (88, (pAt g2 0)), some (89, (tL 2 Location.ty a1.Locations)), some (90, (tI s41)), some (91, (Ty.ptr [(tB y56.InSlot), (tI y56.Index)])), some (92, (Ty.agg [(tB y56.InSlot), (tI y56.Index)])), some (93, (pAt g2 0)), some (94, (tL 2 Location.ty a1.Locations)), some (95, (tI y54)), some (96, (Ty.ptr [(tB y58.InSlot), (tI y58.Index)])), some (97, (Ty.agg [(tB y58.InSlot), (tI y58.Index)]))] ⟨Item.blk g2 66 [(tL 2 Location.ty a1.Locations), (tL 5 Spill.ty a1.Spills), (tI a1.Slots)] :: Item.blk g1 27 [(tI a0.Params), (tI a0.Regs), (tL 5 Block.ty a0.Blocks)] :: ([] : List Item), Item.blk g2 66 [(tL 2 Location.ty a1.Locations), (tL 5 Spill.ty a1.Spills), (tI a1.Slots)] :: Item.blk g1 27 [(tI a0.Params), (tI a0.Regs), (tL 5 Block.ty a0.Blocks)] :: ([] : List Item), []⟩ [] mixed rfl rfl (by kernel_rfl) rfl (by kernel_rfl) rfl rfl rfl (fun _ h => List.Sublist.subset (.cons_cons _ (.cons_cons _ (List.nil_sublist _))) h) (fun _ h => List.Sublist.subset (.cons_cons _ (.cons_cons _ (List.nil_sublist _))) h) rfl (by kernel_rfl) (.inr ⟨by kernel_rfl, by kernel_rfl⟩) (by kernel_rfl) (by kernel_rfl) (dc (draw_plain rfl (does_fieldAddrP 0 Tryd.underlying66 rfl Tryd.sizeOf63 rfl rfl)) (dc (draw_plain rfl (does_loadB1 Tryd.isAgg63 rfl 0 rfl rfl)) (dc (draw_plain rfl (does_move rfl)) (dc (draw_plain rfl (does_index (sz := 2) (f := Location.ty) (l := a1.Locations) (n := s41) y56 Tryd.underlying63 Tryd.sizeOf72 hi57 rfl rfl)) (dc (draw_plain rfl (does_loadA [(tB y56.InSlot), (tI y56.Index)] Tryd.isAgg72 Tryd.sizeOf72 rfl rfl rfl)) (dc (draw_plain rfl (does_fieldAddrP 0 Tryd.underlying66 rfl Tryd.sizeOf63 rfl rfl)) (dc (draw_plain rfl (does_loadB1 Tryd.isAgg63 rfl 0 rfl rfl)) (dc (draw_plain rfl (does_move rfl)) (dc (draw_plain rfl (does_index (sz := 2) (f := Location.ty) (l := a1.Locations) (n := y54) y58 Tryd.underlying63 Tryd.sizeOf72 hi59 rfl rfl)) (dc (draw_plain rfl (does_loadA [(tB y58.InSlot), (tI y58.Index)] Tryd.isAgg72 Tryd.sizeOf72 rfl rfl rfl)) (dn))))))))))) ?_
                          refine ch_end ?_
                          change OkL _ _ _ _ [(88, (pAt g2 0)), (89, (tL 2 Location.ty a1.Locations)), (90, (tI s41)), (91, (Ty.ptr [(tB y56.InSlot), (tI y56.Index)])), (92, (Ty.agg [(tB y56.InSlot), (tI y56.Index)])), (93, (pAt g2 0)), (94, (tL 2 Location.ty a1.Locations)), (95, (tI y54)), (96, (Ty.ptr [(tB y58.InSlot), (tI y58.Index)])), (97, (Ty.agg [(tB y58.InSlot), (tI y58.Index)])), (2, (pAt g1 0)), (3, (pAt g2 0)), (11, (tI s41)), (14, (tI y54)), (75, (tL 1 lIs r34)), (76, (tI ((r34).length : Int))), (77, (tI s41)), (82, (tL 1 lI y44)), (83, (tI ((y44).length : Int))), (84, (tI s51))] (Item.blk g2 66 [(tL 2 Location.ty a1.Locations), (tL 5 Spill.ty a1.Spills), (tI a1.Slots)] :: Item.blk g1 27 [(tI a0.Params), (tI a0.Regs), (tL 5 Block.ty a0.Blocks)] :: L)
                          refine okL_step 98 (tB ((y56.InSlot == y58.InSlot) && (y56.Index == y58.Index))) rfl rfl (does_eqlS [.b y56.InSlot, .i y56.Index] [.b y58.InSlot, .i y58.Index] ((y56.InSlot == y58.InSlot) && (y56.Index == y58.Index)) Tryd.underlying72 sih72 egt72 (Fields.b Tryd.underlying4 (by decide) rfl Tryd.isAgg4 (Fields.i Tryd.underlying3 (by decide) rfl Tryd.isAgg3 Fields.nil)) rfl rfl (by simp only [eqs, Cell.eq, Bool.and_true]) rfl rfl) ?_
                          refine okL_nil ?_
                          refine okX_next ?_
                          refine okC_cond (b := ((y56.InSlot == y58.InSlot) && (y56.Index == y58.Index))) rfl (fun hb60 => ?_) (fun hb60 => ?_)
                          · replace h := ct hb60 h
                            refine okC_seq ?_
                            refine okC_region ?_
                            refine okL_step 4 (tB false) rfl rfl (does_assign rfl) ?_
                            refine okL_nil ?_
                            refine okX_next ?_
                            refine okC_ret ?_
                            refine okX_block_ret ?_
                            refine okX_then_ret ?_
                            refine okX_again_ret ?_
                            refine okX_block_ret ?_
                            refine okX_meet_ret ?_
                            replace h := outh h hz49
                            refine okX_block_ret ?_
                            refine okX_then_ret ?_
                            refine okX_again_ret ?_
                            refine okX_block_ret ?_
                            refine okX_meet_ret ?_
                            replace h := outh h hz39
                            refine okX_then_ret ?_
                            obtain rfl := (smh h).symm
                            refine okX_items [Item.blk g2 66 [(tL 2 Location.ty a1.Locations), (tL 5 Spill.ty a1.Spills), (tI a1.Slots)], Item.blk g1 27 [(tI a0.Params), (tI a0.Regs), (tL 5 Block.ty a0.Blocks)]] (L) (pm 0 rfl (pm 0 rfl (pr _))) ?_
                            exact okX_ret1 () Tryd.results47 rfl rfl
                          · replace h := cf hb60 h
                            refine okC_skip ?_
                            refine okX_block_normal ?_
                            refine okX_next ?_
                            refine okC_region ?_
                            refine okL_step 99 (tI (w64 (s51 + 1))) rfl rfl (does_add rfl rfl) ?_
                            refine okL_step 84 (tI (w64 (s51 + 1))) rfl rfl (does_move rfl) ?_
                            refine okL_nil ?_
                            exact okX_again k (Nat.lt_succ_self k) (w64 (s51 + 1)) h (cc rfl (cc rfl (cc rfl (cc rfl (cc rfl (cc rfl (cc rfl (cc rfl (cc rfl cn))))))))) rfl
                        · replace h := cf hb53 h
                          refine okC_exit ?_
                          refine okX_then_exit ?_
                          refine okX_again_exit ?_
                          refine okX_block_hit ?_
                          exact okX_meet (I := _) () (innh h) (cc rfl (cc rfl (cc rfl (cc rfl (cc rfl cn))))) rfl
                    · intro s46 hx
                      change OkX _ _ _ [(2, (pAt g1 0)), (3, (pAt g2 0)), (75, (tL 1 lIs r34)), (76, (tI ((r34).length : Int))), (77, (tI s41))] (Item.blk g2 66 [(tL 2 Location.ty a1.Locations), (tL 5 Spill.ty a1.Spills), (tI a1.Slots)] :: Item.blk g1 27 [(tI a0.Params), (tI a0.Regs), (tL 5 Block.ty a0.Blocks)] :: L)
                      have hx : z48 = .inl s46 := hx
                      subst hx
                      replace h := hz49
                      refine okX_block_normal ?_
                      refine okX_next ?_
                      refine okC_region ?_
                      refine okL_step 100 (tI (w64 (s41 + 1))) rfl rfl (does_add rfl rfl) ?_
                      refine okL_step 77 (tI (w64 (s41 + 1))) rfl rfl (does_move rfl) ?_
                      refine okL_nil ?_
                      exact okX_again k (Nat.lt_succ_self k) (w64 (s41 + 1)) h (cc rfl (cc rfl (cc rfl (cc rfl (cc rfl cn))))) rfl
                  · replace h := cf hb43 h
                    refine okC_exit ?_
                    refine okX_then_exit ?_
                    refine okX_again_exit ?_
                    refine okX_block_hit ?_
                    exact okX_meet (I := _) () (innh h) (cc rfl (cc rfl cn)) rfl
              · intro s36 hx
                change OkX _ _ _ [(2, (pAt g1 0)), (3, (pAt g2 0))] (Item.blk g2 66 [(tL 2 Location.ty a1.Locations), (tL 5 Spill.ty a1.Spills), (tI a1.Slots)] :: Item.blk g1 27 [(tI a0.Params), (tI a0.Regs), (tL 5 Block.ty a0.Blocks)] :: L)
                have hx : z38 = .inl s36 := hx
                subst hx
                replace h := hz39
                refine okX_next ?_
                refine okC_seq ?_
                refine okC_seq ?_
                refine okC_region ?_
                refine okL_step 101 (Ty.agg [(tI a0.Params), (tI a0.Regs), (tL 5 Block.ty a0.Blocks)]) rfl rfl (does_loadBA [(tI a0.Params), (tI a0.Regs), (tL 5 Block.ty a0.Blocks)] Tryd.isAgg27 Tryd.sizeOf27 rfl 1 rfl rfl rfl) ?_
                obtain ⟨r61, hc62, h⟩ := bs h
                refine okL_step 102 (tL 1 lI r61) rfl rfl (does_call0 (c_liveness_AcrossCalls K a0 r61 hc62) rfl Tryd.call27 rfl) ?_
                refine okL_step 103 (tI ((r61).length : Int)) rfl rfl (does_len (sz := 1) (f := lI) (l := r61) rfl Tryd.underlying31 rfl) ?_
                refine okL_step 104 (tI 0) rfl rfl (does_move rfl) ?_
                refine okL_nil ?_
                refine okX_next ?_
                obtain ⟨z65, h67, hz66⟩ := sqs h
                refine okC_meetE (X := Unit) (fun x => z65 = .inl x) (fun x : Unit => []) (fun x : Unit => Item.blk g2 66 [(tL 2 Location.ty a1.Locations), (tL 5 Spill.ty a1.Spills), (tI a1.Slots)] :: Item.blk g1 27 [(tI a0.Params), (tI a0.Regs), (tL 5 Block.ty a0.Blocks)] :: L) ?_ ?_
                · refine okC_block ?_
                  refine okC_loop (X := Int) (fun k x => alloccheck_Sound_l4 K a1 r61 k x = some z65) (fun x : Int => [(3, (pAt g2 0)), (102, (tL 1 lI r61)), (103, (tI ((r61).length : Int))), (104, (tI x))]) (fun x : Int => Item.blk g2 66 [(tL 2 Location.ty a1.Locations), (tL 5 Spill.ty a1.Spills), (tI a1.Slots)] :: Item.blk g1 27 [(tI a0.Params), (tI a0.Regs), (tL 5 Block.ty a0.Blocks)] :: L) K 0 h67 (cc rfl (cc rfl (cc rfl (cc rfl cn)))) rfl (fun k s68 hI => ?_)
                  change OkC _ _ _ [(3, (pAt g2 0)), (102, (tL 1 lI r61)), (103, (tI ((r61).length : Int))), (104, (tI s68))] (Item.blk g2 66 [(tL 2 Location.ty a1.Locations), (tL 5 Spill.ty a1.Spills), (tI a1.Slots)] :: Item.blk g1 27 [(tI a0.Params), (tI a0.Regs), (tL 5 Block.ty a0.Blocks)] :: L)
                  cases k with
                  | zero => exact (nz hI).elim
                  | succ k =>
                    have h : alloccheck_Sound_l4 K a1 r61 (k + 1) s68 = some z65 := hI
                    rw [alloccheck_Sound_l4.eq_2] at h
                    refine okC_seq ?_
                    refine okC_region ?_
                    refine okL_step 105 (tB (decide (s68 < ((r61).length : Int)))) rfl rfl (does_lss rfl rfl) ?_
                    refine okL_nil ?_
                    refine okX_next ?_
                    refine okC_seq ?_
                    refine okC_cond (b := (decide (s68 < ((r61).length : Int)))) rfl (fun hb70 => ?_) (fun hb70 => ?_)
                    · replace h := ct hb70 h
                      refine okC_skip ?_
                      refine okX_next ?_
                      refine okC_seq ?_
                      refine okC_block ?_
                      refine okC_seq ?_
                      refine okC_region ?_
                      obtain ⟨y71, hi72, h⟩ := bs h
                      refine okL_step 106 (Ty.ptr [(tI y71)]) rfl rfl (does_index (sz := 1) (f := lI) (l := r61) (n := s68) y71 Tryd.underlying31 Tryd.sizeOf3 hi72 rfl rfl) ?_
                      refine okL_step 107 (tI y71) rfl rfl (does_load1 Tryd.isAgg3 rfl) ?_
                      refine okL_step 16 (tI y71) rfl rfl (does_assign rfl) ?_
                      refine okL_nil ?_
                      refine okX_next ?_
                      refine okC_seq ?_
                      refine okC_region ?_
                      refine okL_step 108 (pAt g2 0) rfl rfl (does_fieldAddrP 0 Tryd.underlying66 rfl Tryd.sizeOf63 rfl rfl) ?_
                      refine okL_step 109 (tL 2 Location.ty a1.Locations) rfl rfl (does_loadB1 Tryd.isAgg63 rfl 0 rfl rfl) ?_
                      refine okL_step 110 (tI y71) rfl rfl (does_move rfl) ?_
                      obtain ⟨y73, hi74, h⟩ := bs h
                      refine okL_step 111 (Ty.ptr [(tB y73.InSlot), (tI y73.Index)]) rfl rfl (does_index (sz := 2) (f := Location.ty) (l := a1.Locations) (n := y71) y73 Tryd.underlying63 Tryd.sizeOf72 hi74 rfl rfl) ?_
                      refine okL_step 112 (Ty.ptr [(tB y73.InSlot), (tI y73.Index)]) rfl rfl (does_fieldAddr [(tB y73.InSlot), (tI y73.Index)] Tryd.underlying72 rfl Tryd.sizeOf4 rfl rfl) ?_
                      refine okL_step 113 (tB y73.InSlot) rfl rfl (does_load1 Tryd.isAgg4 rfl) ?_
                      refine okL_step 114 (tB (!y73.InSlot)) rfl rfl (does_not rfl) ?_
                      refine okL_nil ?_
                      refine okX_next ?_
                      refine okC_cond (b := (!y73.InSlot)) rfl (fun hb75 => ?_) (fun hb75 => ?_)
                      · replace h := ct hb75 h
                        refine okC_seq ?_
                        refine okC_region ?_
                        refine okL_step 4 (tB false) rfl rfl (does_assign rfl) ?_
                        refine okL_nil ?_
                        refine okX_next ?_
                        refine okC_ret ?_
                        refine okX_block_ret ?_
                        refine okX_then_ret ?_
                        refine okX_again_ret ?_
                        refine okX_block_ret ?_
                        refine okX_meet_ret ?_
                        replace h := outh h hz66
                        refine okX_then_ret ?_
                        obtain rfl := (smh h).symm
                        refine okX_items [Item.blk g2 66 [(tL 2 Location.ty a1.Locations), (tL 5 Spill.ty a1.Spills), (tI a1.Slots)], Item.blk g1 27 [(tI a0.Params), (tI a0.Regs), (tL 5 Block.ty a0.Blocks)]] (L) (pm 0 rfl (pm 0 rfl (pr _))) ?_
                        exact okX_ret1 () Tryd.results47 rfl rfl
                      · replace h := cf hb75 h
                        refine okC_skip ?_
                        refine okX_block_normal ?_
                        refine okX_next ?_
                        refine okC_region ?_
                        refine okL_step 115 (tI (w64 (s68 + 1))) rfl rfl (does_add rfl rfl) ?_
                        refine okL_step 104 (tI (w64 (s68 + 1))) rfl rfl (does_move rfl) ?_
                        refine okL_nil ?_
                        exact okX_again k (Nat.lt_succ_self k) (w64 (s68 + 1)) h (cc rfl (cc rfl (cc rfl (cc rfl cn)))) rfl
                    · replace h := cf hb70 h
                      refine okC_exit ?_
                      refine okX_then_exit ?_
                      refine okX_again_exit ?_
                      refine okX_block_hit ?_
                      exact okX_meet (I := _) () (innh h) cn rfl
                · intro s63 hx
                  change OkX _ _ _ [] (Item.blk g2 66 [(tL 2 Location.ty a1.Locations), (tL 5 Spill.ty a1.Spills), (tI a1.Slots)] :: Item.blk g1 27 [(tI a0.Params), (tI a0.Regs), (tL 5 Block.ty a0.Blocks)] :: L)
                  have hx : z65 = .inl s63 := hx
                  subst hx
                  replace h := hz66
                  refine okX_next ?_
                  refine okC_seq ?_
                  refine okC_region ?_
                  refine okL_step 4 (tB true) rfl rfl (does_assign rfl) ?_
                  refine okL_nil ?_
                  refine okX_next ?_
                  refine okC_ret ?_
                  obtain rfl := (smh h).symm
                  refine okX_items [Item.blk g2 66 [(tL 2 Location.ty a1.Locations), (tL 5 Spill.ty a1.Spills), (tI a1.Slots)], Item.blk g1 27 [(tI a0.Params), (tI a0.Regs), (tL 5 Block.ty a0.Blocks)]] (L) (pm 0 rfl (pm 0 rfl (pr _))) ?_
                  exact okX_ret1 () Tryd.results47 rfl rfl

def alloccheck_Justified_l1 (K : Nat) (a0 : VFunc) (a1 : Allocation) (r10 : (List (List Int))) : Nat → (Int × (List (Int × (List (List Int)))) × (List Bool)) → Option (((List (Int × (List (List Int)))) × (List Bool)) ⊕ Bool)
  | 0, _ => none
  | k + 1, s19 => (cnd (decide (s19.1 < ((a1.Spills).length : Int))) (Option.bind (idx a1.Spills s19.1) (fun y22 => (Option.bind (cnd ((decide (y22.Reg < 0)) || (decide (y22.Reg ≥ a0.Regs))) (some true) (Option.bind (idx s19.2.2 y22.Reg) (fun y31 => (some y31)))) (fun x30 => (Option.bind (cnd x30 (some true) (Option.bind (idx a1.Locations y22.Reg) (fun y38 => (some (!y38.InSlot))))) (fun x37 => (cnd x37 (out (some false)) (Option.bind (cnd (y22.Reason == 1) (Option.bind (alloccheck_acrossCall K (⟨a0, s19.2.1⟩ : AlloccheckPoints) y22) (fun r47 => (some (r47.1, r47.2, s19.2.2)))) (cnd (y22.Reason == 2) (Option.bind (alloccheck_pressure K (⟨a0, s19.2.1⟩ : AlloccheckPoints) y22 s19.2.2) (fun r50 => (some (r50.1, r50.2.1, r50.2.2)))) (cnd (y22.Reason == 3) (Option.bind (idx r10 y22.Reg) (fun y53 => (Option.bind (alloccheck_coloring K a0 a1 y22 y53) (fun r55 => (some (r55, s19.2.1, s19.2.2)))))) (some (false, s19.2.1, s19.2.2))))) (fun s41 => (cnd (!s41.1) (out (some false)) (Option.bind (idx s41.2.2 y22.Reg) (fun y58 => (alloccheck_Justified_l1 K a0 a1 r10 k ((w64 (s19.1 + 1)), s41.2.1, (s41.2.2.set y22.Reg.toNat true))))))))))))))) (inn (s19.2.1, s19.2.2)))

def alloccheck_Justified_l2 (K : Nat) (a1 : Allocation) (s14 : ((List (Int × (List (List Int)))) × (List Bool))) : Nat → Int → Option (Unit ⊕ Bool)
  | 0, _ => none
  | k + 1, s66 => (cnd (decide (s66 < ((a1.Locations).length : Int))) (Option.bind (idx a1.Locations s66) (fun y69 => (Option.bind (cnd y69.InSlot (Option.bind (idx s14.2 s66) (fun y77 => (some (!y77)))) (some false)) (fun x76 => (cnd x76 (out (some false)) (alloccheck_Justified_l2 K a1 s14 k (w64 (s66 + 1)))))))) (inn ()))

def alloccheck_Justified (K : Nat) (a0 : VFunc) (a1 : Allocation) : Option Bool :=
  (Option.bind (vcode_Valid K a0) (fun r3 => (cnd ((!r3) || (((a1.Locations).length : Int) != a0.Regs)) (some false) (Option.bind (mk 1 a0.Regs false) (fun l7 => (Option.bind (regalloc_Interference K a0) (fun r10 => (sq (alloccheck_Justified_l1 K a0 a1 r10 K (0, ([] : List (Int × (List (List Int)))), l7)) (fun s14 => (sq (alloccheck_Justified_l2 K a1 s14 K 0) (fun s61 => (some true))))))))))))

theorem c_alloccheck_Justified (K : Nat) (a0 : VFunc) (a1 : Allocation) (r : Bool) (h : alloccheck_Justified K a0 a1 = some r) : CallP Tryd.prog glob 49 [(Ty.agg [(tI a0.Params), (tI a0.Regs), (tL 5 Block.ty a0.Blocks)]), (Ty.agg [(tL 2 Location.ty a1.Locations), (tL 5 Spill.ty a1.Spills), (tI a1.Slots)])] (tB r) := by
  refine call_of_code Tryd.func49 rfl Tryd.ntmps49 rfl (fun L w => ?_)
  change OkC _ _ _ [(0, (Ty.agg [(tI a0.Params), (tI a0.Regs), (tL 5 Block.ty a0.Blocks)])), (1, (Ty.agg [(tL 2 Location.ty a1.Locations), (tL 5 Spill.ty a1.Spills), (tI a1.Slots)]))] (L)
  unfold alloccheck_Justified at h
  refine okC_seq ?_
  refine okC_region ?_
  refine okL_stepO 2 rfl rfl (doesO_box [(tI a0.Params), (tI a0.Regs), (tL 5 Block.ty a0.Blocks)] rfl (part_agg _) (fun g1 => ?_))
  refine okL_stepO 3 rfl rfl (doesO_box [(tL 2 Location.ty a1.Locations), (tL 5 Spill.ty a1.Spills), (tI a1.Slots)] rfl (part_agg _) (fun g2 => ?_))
  refine okL_step 4 (tB false) rfl rfl (does_assign rfl) ?_
  refine okL_nil ?_
  refine okX_next ?_
  refine okC_seq ?_
  refine okC_seq ?_
  refine okC_region ?_
  refine okL_step 13 (Ty.agg [(tI a0.Params), (tI a0.Regs), (tL 5 Block.ty a0.Blocks)]) rfl rfl (does_loadBA [(tI a0.Params), (tI a0.Regs), (tL 5 Block.ty a0.Blocks)] Tryd.isAgg27 Tryd.sizeOf27 rfl 1 rfl rfl rfl) ?_
  obtain ⟨r3, hc4, h⟩ := bs h
  refine okL_step 14 (tB r3) rfl rfl (does_call0 (c_vcode_Valid K a0 r3 hc4) rfl Tryd.call63 rfl) ?_
  refine okL_step 15 (tB (!r3)) rfl rfl (does_not rfl) ?_
  refine okL_step 16 (tB (!r3)) rfl rfl (does_move rfl) ?_
  refine okL_meet (X := Bool) 7 (fun x => x = ((!r3) || (((a1.Locations).length : Int) != a0.Regs))) (fun x : Bool => [(2, (pAt g1 0)), (3, (pAt g2 0)), (23, (tB x))]) (fun x : Bool => Item.blk g2 66 [(tL 2 Location.ty a1.Locations), (tL 5 Spill.ty a1.Spills), (tI a1.Slots)] :: Item.blk g1 27 [(tI a0.Params), (tI a0.Regs), (tL 5 Block.ty a0.Blocks)] :: L) _ rfl ?_ ?_
  · refine okL_split (!r3) (fun hb5 => ?_) (fun hb5 => ?_)
    · refine okL_skip 17 16 (!r3) rfl rfl hb5 rfl rfl ?_
      refine okL_skip 18 16 (!r3) rfl rfl hb5 rfl rfl ?_
      refine okL_skip 19 16 (!r3) rfl rfl hb5 rfl rfl ?_
      refine okL_skip 20 16 (!r3) rfl rfl hb5 rfl rfl ?_
      refine okL_skip 21 16 (!r3) rfl rfl hb5 rfl rfl ?_
      refine okL_skip 22 16 (!r3) rfl rfl hb5 rfl rfl ?_
      refine okL_step 23 (tB true) rfl rfl (does_pick_t (!r3) rfl hb5 rfl) ?_
      refine okL_nil ?_
      exact okX_meet (I := _) true (or_t hb5) (cc rfl (cc rfl (cc rfl cn))) rfl
    · refine okL_guard 17 (pAt g2 0) 16 (!r3) rfl rfl hb5 rfl rfl (does_fieldAddrP 0 Tryd.underlying66 rfl Tryd.sizeOf63 rfl rfl) ?_
      refine okL_guard 18 (tL 2 Location.ty a1.Locations) 16 (!r3) rfl rfl hb5 rfl rfl (does_loadB1 Tryd.isAgg63 rfl 0 rfl rfl) ?_
      refine okL_guard 19 (tI ((a1.Locations).length : Int)) 16 (!r3) rfl rfl hb5 rfl rfl (does_len (sz := 2) (f := Location.ty) (l := a1.Locations) rfl Tryd.underlying63 rfl) ?_
      refine okL_guard 20 (pAt g1 1) 16 (!r3) rfl rfl hb5 rfl rfl (does_fieldAddrP 1 Tryd.underlying27 rfl Tryd.sizeOf3 rfl rfl) ?_
      refine okL_guard 21 (tI a0.Regs) 16 (!r3) rfl rfl hb5 rfl rfl (does_loadB1 Tryd.isAgg3 rfl 1 rfl rfl) ?_
      refine okL_guard 22 (tB (((a1.Locations).length : Int) != a0.Regs)) 16 (!r3) rfl rfl hb5 rfl rfl (does_neq rfl rfl) ?_
      refine okL_step 23 (tB (((a1.Locations).length : Int) != a0.Regs)) rfl rfl (does_pick_f (!r3) rfl hb5 rfl) ?_
      refine okL_nil ?_
      exact okX_meet (I := _) (((a1.Locations).length : Int) != a0.Regs) (or_f hb5) (cc rfl (cc rfl (cc rfl cn))) rfl
  · intro x80 hx
    subst hx
    change OkL _ _ _ _ [(2, (pAt g1 0)), (3, (pAt g2 0)), (23, (tB ((!r3) || (((a1.Locations).length : Int) != a0.Regs))))] (Item.blk g2 66 [(tL 2 Location.ty a1.Locations), (tL 5 Spill.ty a1.Spills), (tI a1.Slots)] :: Item.blk g1 27 [(tI a0.Params), (tI a0.Regs), (tL 5 Block.ty a0.Blocks)] :: L)
    refine okL_nil ?_
    refine okX_next ?_
    refine okC_cond (b := ((!r3) || (((a1.Locations).length : Int) != a0.Regs))) rfl (fun hb6 => ?_) (fun hb6 => ?_)
    · replace h := ct hb6 h
      refine okC_seq ?_
      refine okC_region ?_
      refine okL_step 4 (tB false) rfl rfl (does_assign rfl) ?_
      refine okL_nil ?_
      refine okX_next ?_
      refine okC_ret ?_
      refine okX_then_ret ?_
      obtain rfl := (smh h).symm
      refine okX_items [Item.blk g2 66 [(tL 2 Location.ty a1.Locations), (tL 5 Spill.ty a1.Spills), (tI a1.Slots)], Item.blk g1 27 [(tI a0.Params), (tI a0.Regs), (tL 5 Block.ty a0.Blocks)]] (L) (pm 0 rfl (pm 0 rfl (pr _))) ?_
      exact okX_ret1 () Tryd.results49 rfl rfl
    · replace h := cf hb6 h
      refine okC_skip ?_
      refine okX_next ?_
      refine okC_seq ?_
      refine okC_region ?_
      refine okL_step 24 (pAt g1 1) rfl rfl (does_fieldAddrP 1 Tryd.underlying27 rfl Tryd.sizeOf3 rfl rfl) ?_
      refine okL_step 25 (tI a0.Regs) rfl rfl (does_loadB1 Tryd.isAgg3 rfl 1 rfl rfl) ?_
      obtain ⟨l7, hm8, h⟩ := bs h
      refine okL_stepO 26 rfl rfl (doesO_make (f := lB) el79 false l7 hm8 rfl rfl (part_one (one_val rfl)) (fun v9 => ?_))
      refine okL_step 5 (Ty.own v9) rfl rfl (does_assign rfl) ?_
      refine okL_nil ?_
      refine okX_next ?_
      refine okC_seq ?_
      refine okC_region ?_
      refine okL_step 27 (Ty.agg [(tI a0.Params), (tI a0.Regs), (tL 5 Block.ty a0.Blocks)]) rfl rfl (does_loadBA [(tI a0.Params), (tI a0.Regs), (tL 5 Block.ty a0.Blocks)] Tryd.isAgg27 Tryd.sizeOf27 rfl 2 rfl rfl rfl) ?_
      obtain ⟨r10, hc11, h⟩ := bs h
      refine okL_step 28 (tL 1 lIs r10) rfl rfl (does_call0 (c_regalloc_Interference K a0 r10 hc11) rfl Tryd.call53 rfl) ?_
      refine okL_step 6 (tL 1 lIs r10) rfl rfl (does_assign rfl) ?_
      refine okL_nil ?_
      refine okX_next ?_
      refine okC_seq ?_
      refine okC_region ?_
      refine okL_step 29 (Ty.agg [(tI a0.Params), (tI a0.Regs), (tL 5 Block.ty a0.Blocks)]) rfl rfl (does_loadBA [(tI a0.Params), (tI a0.Regs), (tL 5 Block.ty a0.Blocks)] Tryd.isAgg27 Tryd.sizeOf27 rfl 2 rfl rfl rfl) ?_
      refine okL_stepO 30 rfl rfl (doesO_makeMap (tL 1 lIs) (fun g12 => ?_))
      refine okL_step 31 (Ty.agg [(tI a0.Params), (tI a0.Regs), (tL 5 Block.ty a0.Blocks), (Ty.val (.map (some g12)))]) rfl rfl (does_build [(tI a0.Params), (tI a0.Regs), (tL 5 Block.ty a0.Blocks), (Ty.val (.map (some g12)))] Tryd.zeroValue127 Tryd.underlying127 (places127 _ Tryd.underlying127) rfl (fc [(tI a0.Params), (tI a0.Regs), (tL 5 Block.ty a0.Blocks)] 0 rfl (part_agg _) rfl rfl (fc [(Ty.val (.map (some g12)))] 3 rfl (part_one (one_val rfl)) rfl rfl (fn_ rfl)))) ?_
      refine okL_stepO 7 rfl rfl (doesO_alloc [(tI 0), (tI 0), (Ty.val (.slice none 0 0)), (Ty.val (.map none))] Tryd.zeroValue127 (part_of (sub_agg [(.int .i64 0), (.int .i64 0), (.slice none 0 0), (.map none)] rfl) (part_agg _)) (fun g13 => ?_))
      refine okL_stepU rfl (doesO_storeB (ps := [(tI a0.Params), (tI a0.Regs), (tL 5 Block.ty a0.Blocks), (Ty.val (.map (some g12)))]) 0 [(tI a0.Params), (tI a0.Regs), (tL 5 Block.ty a0.Blocks), (Ty.val (.map (some g12)))] (Item.blk g13 127 [(tI a0.Params), (tI a0.Regs), (tL 5 Block.ty a0.Blocks), (Ty.val (.map (some g12)))] :: mapL g12 (tL 1 lIs) ([] : List (Int × (List (List Int)))) :: rowL v9 4 1 lB l7 :: Item.blk g2 66 [(tL 2 Location.ty a1.Locations), (tL 5 Spill.ty a1.Spills), (tI a1.Slots)] :: Item.blk g1 27 [(tI a0.Params), (tI a0.Regs), (tL 5 Block.ty a0.Blocks)] :: L) rfl rfl (part_agg _) Tryd.sizeOf127 rfl rfl rfl rfl ?_)
      refine okL_nil ?_
      refine okX_next ?_
      refine okC_seq ?_
      refine okC_seq ?_
      refine okC_region ?_
      refine okL_step 32 (pAt g2 1) rfl rfl (does_fieldAddrP 1 Tryd.underlying66 rfl Tryd.sizeOf64 rfl rfl) ?_
      refine okL_step 33 (tL 5 Spill.ty a1.Spills) rfl rfl (does_loadB1 Tryd.isAgg64 rfl 3 rfl rfl) ?_
      refine okL_step 34 (tI ((a1.Spills).length : Int)) rfl rfl (does_len (sz := 5) (f := Spill.ty) (l := a1.Spills) rfl Tryd.underlying64 rfl) ?_
      refine okL_step 35 (tI 0) rfl rfl (does_move rfl) ?_
      refine okL_nil ?_
      refine okX_next ?_
      obtain ⟨z16, h18, hz17⟩ := sqs h
      refine okC_meetE (X := ((List (Int × (List (List Int)))) × (List Bool))) (fun x => z16 = .inl x) (fun x : ((List (Int × (List (List Int)))) × (List Bool)) => [(3, (pAt g2 0)), (5, (Ty.own v9))]) (fun x : ((List (Int × (List (List Int)))) × (List Bool)) => Item.blk g13 127 [(tI a0.Params), (tI a0.Regs), (tL 5 Block.ty a0.Blocks), (Ty.val (.map (some g12)))] :: mapL g12 (tL 1 lIs) x.1 :: rowL v9 4 1 lB x.2 :: Item.blk g2 66 [(tL 2 Location.ty a1.Locations), (tL 5 Spill.ty a1.Spills), (tI a1.Slots)] :: Item.blk g1 27 [(tI a0.Params), (tI a0.Regs), (tL 5 Block.ty a0.Blocks)] :: L) ?_ ?_
      · refine okC_block ?_
        refine okC_loop (X := (Int × (List (Int × (List (List Int)))) × (List Bool))) (fun k x => alloccheck_Justified_l1 K a0 a1 r10 k x = some z16) (fun x : (Int × (List (Int × (List (List Int)))) × (List Bool)) => [(2, (pAt g1 0)), (3, (pAt g2 0)), (5, (Ty.own v9)), (6, (tL 1 lIs r10)), (7, (pAt g13 0)), (33, (tL 5 Spill.ty a1.Spills)), (34, (tI ((a1.Spills).length : Int))), (35, (tI x.1))]) (fun x : (Int × (List (Int × (List (List Int)))) × (List Bool)) => Item.blk g13 127 [(tI a0.Params), (tI a0.Regs), (tL 5 Block.ty a0.Blocks), (Ty.val (.map (some g12)))] :: mapL g12 (tL 1 lIs) x.2.1 :: rowL v9 4 1 lB x.2.2 :: Item.blk g2 66 [(tL 2 Location.ty a1.Locations), (tL 5 Spill.ty a1.Spills), (tI a1.Slots)] :: Item.blk g1 27 [(tI a0.Params), (tI a0.Regs), (tL 5 Block.ty a0.Blocks)] :: L) K (0, ([] : List (Int × (List (List Int)))), l7) h18 (cc rfl (cc rfl (cc rfl (cc rfl (cc rfl (cc rfl (cc rfl (cc rfl cn)))))))) rfl (fun k s19 hI => ?_)
        change OkC _ _ _ [(2, (pAt g1 0)), (3, (pAt g2 0)), (5, (Ty.own v9)), (6, (tL 1 lIs r10)), (7, (pAt g13 0)), (33, (tL 5 Spill.ty a1.Spills)), (34, (tI ((a1.Spills).length : Int))), (35, (tI s19.1))] (Item.blk g13 127 [(tI a0.Params), (tI a0.Regs), (tL 5 Block.ty a0.Blocks), (Ty.val (.map (some g12)))] :: mapL g12 (tL 1 lIs) s19.2.1 :: rowL v9 4 1 lB s19.2.2 :: Item.blk g2 66 [(tL 2 Location.ty a1.Locations), (tL 5 Spill.ty a1.Spills), (tI a1.Slots)] :: Item.blk g1 27 [(tI a0.Params), (tI a0.Regs), (tL 5 Block.ty a0.Blocks)] :: L)
        cases k with
        | zero => exact (nz hI).elim
        | succ k =>
          have h : alloccheck_Justified_l1 K a0 a1 r10 (k + 1) s19 = some z16 := hI
          rw [alloccheck_Justified_l1.eq_2] at h
          refine okC_seq ?_
          refine okC_region ?_
          refine okL_step 36 (tB (decide (s19.1 < ((a1.Spills).length : Int)))) rfl rfl (does_lss rfl rfl) ?_
          refine okL_nil ?_
          refine okX_next ?_
          refine okC_seq ?_
          refine okC_cond (b := (decide (s19.1 < ((a1.Spills).length : Int)))) rfl (fun hb21 => ?_) (fun hb21 => ?_)
          · replace h := ct hb21 h
            refine okC_skip ?_
            refine okX_next ?_
            refine okC_seq ?_
            refine okC_block ?_
            refine okC_seq ?_
            refine okC_region ?_
            obtain ⟨y22, hi23, h⟩ := bs h
            refine okL_step 37 (Ty.ptr [(tI y22.Reg), (tI y22.Reason), (tI y22.Block), (tI y22.Index), (tL 1 lI y22.Others)]) rfl rfl (does_index (sz := 5) (f := Spill.ty) (l := a1.Spills) (n := s19.1) y22 Tryd.underlying64 Tryd.sizeOf76 hi23 rfl rfl) ?_
            refine okL_step 38 (Ty.agg [(tI y22.Reg), (tI y22.Reason), (tI y22.Block), (tI y22.Index), (tL 1 lI y22.Others)]) rfl rfl (does_loadA [(tI y22.Reg), (tI y22.Reason), (tI y22.Block), (tI y22.Index), (tL 1 lI y22.Others)] Tryd.isAgg76 Tryd.sizeOf76 rfl rfl rfl) ?_
            refine okL_stepO 9 rfl rfl (doesO_alloc [(tI 0), (tI 0), (tI 0), (tI 0), (Ty.val (.slice none 0 0))] Tryd.zeroValue76 (part_of (sub_agg [(.int .i64 0), (.int .i64 0), (.int .i64 0), (.int .i64 0), (.slice none 0 0)] rfl) (part_agg _)) (fun g24 => ?_))
            refine okL_stepU rfl (doesO_storeB (ps := [(tI y22.Reg), (tI y22.Reason), (tI y22.Block), (tI y22.Index), (tL 1 lI y22.Others)]) 0 [(tI y22.Reg), (tI y22.Reason), (tI y22.Block), (tI y22.Index), (tL 1 lI y22.Others)] (Item.blk g24 76 [(tI y22.Reg), (tI y22.Reason), (tI y22.Block), (tI y22.Index), (tL 1 lI y22.Others)] :: Item.blk g13 127 [(tI a0.Params), (tI a0.Regs), (tL 5 Block.ty a0.Blocks), (Ty.val (.map (some g12)))] :: mapL g12 (tL 1 lIs) s19.2.1 :: rowL v9 4 1 lB s19.2.2 :: Item.blk g2 66 [(tL 2 Location.ty a1.Locations), (tL 5 Spill.ty a1.Spills), (tI a1.Slots)] :: Item.blk g1 27 [(tI a0.Params), (tI a0.Regs), (tL 5 Block.ty a0.Blocks)] :: L) rfl rfl (part_agg _) Tryd.sizeOf76 rfl rfl rfl rfl ?_)
            refine okL_nil ?_
            refine okX_next ?_
            refine okC_seq ?_
            refine okC_seq ?_
            refine okC_region ?_
            refine okL_step 39 (pAt g24 0) rfl rfl (does_fieldAddrP 0 Tryd.underlying76 rfl Tryd.sizeOf3 rfl rfl) ?_
            refine okL_step 40 (tI y22.Reg) rfl rfl (does_loadB1 Tryd.isAgg3 rfl 0 rfl rfl) ?_
            refine okL_step 41 (tB (decide (y22.Reg < 0))) rfl rfl (does_lss rfl rfl) ?_
            refine okL_step 42 (tB (decide (y22.Reg < 0))) rfl rfl (does_move rfl) ?_
            refine okL_meet (X := Bool) 6 (fun x => x = ((decide (y22.Reg < 0)) || (decide (y22.Reg ≥ a0.Regs)))) (fun x : Bool => [(2, (pAt g1 0)), (3, (pAt g2 0)), (5, (Ty.own v9)), (6, (tL 1 lIs r10)), (7, (pAt g13 0)), (9, (pAt g24 0)), (33, (tL 5 Spill.ty a1.Spills)), (34, (tI ((a1.Spills).length : Int))), (35, (tI s19.1)), (48, (tB x))]) (fun x : Bool => Item.blk g24 76 [(tI y22.Reg), (tI y22.Reason), (tI y22.Block), (tI y22.Index), (tL 1 lI y22.Others)] :: Item.blk g13 127 [(tI a0.Params), (tI a0.Regs), (tL 5 Block.ty a0.Blocks), (Ty.val (.map (some g12)))] :: mapL g12 (tL 1 lIs) s19.2.1 :: rowL v9 4 1 lB s19.2.2 :: Item.blk g2 66 [(tL 2 Location.ty a1.Locations), (tL 5 Spill.ty a1.Spills), (tI a1.Slots)] :: Item.blk g1 27 [(tI a0.Params), (tI a0.Regs), (tL 5 Block.ty a0.Blocks)] :: L) _ rfl ?_ ?_
            · refine okL_split (decide (y22.Reg < 0)) (fun hb25 => ?_) (fun hb25 => ?_)
              · refine okL_skip 43 42 (decide (y22.Reg < 0)) rfl rfl hb25 rfl rfl ?_
                refine okL_skip 44 42 (decide (y22.Reg < 0)) rfl rfl hb25 rfl rfl ?_
                refine okL_skip 45 42 (decide (y22.Reg < 0)) rfl rfl hb25 rfl rfl ?_
                refine okL_skip 46 42 (decide (y22.Reg < 0)) rfl rfl hb25 rfl rfl ?_
                refine okL_skip 47 42 (decide (y22.Reg < 0)) rfl rfl hb25 rfl rfl ?_
                refine okL_step 48 (tB true) rfl rfl (does_pick_t (decide (y22.Reg < 0)) rfl hb25 rfl) ?_
                refine okL_nil ?_
                exact okX_meet (I := _) true (or_t hb25) (cc rfl (cc rfl (cc rfl (cc rfl (cc rfl (cc rfl (cc rfl (cc rfl (cc rfl (cc rfl cn)))))))))) rfl
              · refine okL_guard 43 (pAt g24 0) 42 (decide (y22.Reg < 0)) rfl rfl hb25 rfl rfl (does_fieldAddrP 0 Tryd.underlying76 rfl Tryd.sizeOf3 rfl rfl) ?_
                refine okL_guard 44 (tI y22.Reg) 42 (decide (y22.Reg < 0)) rfl rfl hb25 rfl rfl (does_loadB1 Tryd.isAgg3 rfl 0 rfl rfl) ?_
                refine okL_guard 45 (pAt g1 1) 42 (decide (y22.Reg < 0)) rfl rfl hb25 rfl rfl (does_fieldAddrP 1 Tryd.underlying27 rfl Tryd.sizeOf3 rfl rfl) ?_
                refine okL_guard 46 (tI a0.Regs) 42 (decide (y22.Reg < 0)) rfl rfl hb25 rfl rfl (does_loadB1 Tryd.isAgg3 rfl 5 rfl rfl) ?_
                refine okL_guard 47 (tB (decide (y22.Reg ≥ a0.Regs))) 42 (decide (y22.Reg < 0)) rfl rfl hb25 rfl rfl (does_geq rfl rfl) ?_
                refine okL_step 48 (tB (decide (y22.Reg ≥ a0.Regs))) rfl rfl (does_pick_f (decide (y22.Reg < 0)) rfl hb25 rfl) ?_
                refine okL_nil ?_
                exact okX_meet (I := _) (decide (y22.Reg ≥ a0.Regs)) (or_f hb25) (cc rfl (cc rfl (cc rfl (cc rfl (cc rfl (cc rfl (cc rfl (cc rfl (cc rfl (cc rfl cn)))))))))) rfl
            · intro x60 hx
              subst hx
              change OkL _ _ _ _ [(2, (pAt g1 0)), (3, (pAt g2 0)), (5, (Ty.own v9)), (6, (tL 1 lIs r10)), (7, (pAt g13 0)), (9, (pAt g24 0)), (33, (tL 5 Spill.ty a1.Spills)), (34, (tI ((a1.Spills).length : Int))), (35, (tI s19.1)), (48, (tB ((decide (y22.Reg < 0)) || (decide (y22.Reg ≥ a0.Regs)))))] (Item.blk g24 76 [(tI y22.Reg), (tI y22.Reason), (tI y22.Block), (tI y22.Index), (tL 1 lI y22.Others)] :: Item.blk g13 127 [(tI a0.Params), (tI a0.Regs), (tL 5 Block.ty a0.Blocks), (Ty.val (.map (some g12)))] :: mapL g12 (tL 1 lIs) s19.2.1 :: rowL v9 4 1 lB s19.2.2 :: Item.blk g2 66 [(tL 2 Location.ty a1.Locations), (tL 5 Spill.ty a1.Spills), (tI a1.Slots)] :: Item.blk g1 27 [(tI a0.Params), (tI a0.Regs), (tL 5 Block.ty a0.Blocks)] :: L)
              refine okL_step 49 (tB ((decide (y22.Reg < 0)) || (decide (y22.Reg ≥ a0.Regs)))) rfl rfl (does_move rfl) ?_
              obtain ⟨z27, h29, hz28⟩ := bs h
              refine okL_meet (X := Bool) 6 (fun x => z27 = x) (fun x : Bool => [(2, (pAt g1 0)), (3, (pAt g2 0)), (5, (Ty.own v9)), (6, (tL 1 lIs r10)), (7, (pAt g13 0)), (9, (pAt g24 0)), (33, (tL 5 Spill.ty a1.Spills)), (34, (tI ((a1.Spills).length : Int))), (35, (tI s19.1)), (55, (tB x))]) (fun x : Bool => Item.blk g24 76 [(tI y22.Reg), (tI y22.Reason), (tI y22.Block), (tI y22.Index), (tL 1 lI y22.Others)] :: Item.blk g13 127 [(tI a0.Params), (tI a0.Regs), (tL 5 Block.ty a0.Blocks), (Ty.val (.map (some g12)))] :: mapL g12 (tL 1 lIs) s19.2.1 :: rowL v9 4 1 lB s19.2.2 :: Item.blk g2 66 [(tL 2 Location.ty a1.Locations), (tL 5 Spill.ty a1.Spills), (tI a1.Slots)] :: Item.blk g1 27 [(tI a0.Params), (tI a0.Regs), (tL 5 Block.ty a0.Blocks)] :: L) _ rfl ?_ ?_
              · refine okL_split ((decide (y22.Reg < 0)) || (decide (y22.Reg ≥ a0.Regs))) (fun hb26 => ?_) (fun hb26 => ?_)
                · replace h29 := ct hb26 h29
                  refine okL_skip 50 49 ((decide (y22.Reg < 0)) || (decide (y22.Reg ≥ a0.Regs))) rfl rfl hb26 rfl rfl ?_
                  refine okL_skip 51 49 ((decide (y22.Reg < 0)) || (decide (y22.Reg ≥ a0.Regs))) rfl rfl hb26 rfl rfl ?_
                  refine okL_skip 52 49 ((decide (y22.Reg < 0)) || (decide (y22.Reg ≥ a0.Regs))) rfl rfl hb26 rfl rfl ?_
                  refine okL_skip 53 49 ((decide (y22.Reg < 0)) || (decide (y22.Reg ≥ a0.Regs))) rfl rfl hb26 rfl rfl ?_
                  refine okL_skip 54 49 ((decide (y22.Reg < 0)) || (decide (y22.Reg ≥ a0.Regs))) rfl rfl hb26 rfl rfl ?_
                  refine okL_step 55 (tB true) rfl rfl (does_pick_t ((decide (y22.Reg < 0)) || (decide (y22.Reg ≥ a0.Regs))) rfl hb26 rfl) ?_
                  refine okL_nil ?_
                  exact okX_meet (I := _) true (smh h29) (cc rfl (cc rfl (cc rfl (cc rfl (cc rfl (cc rfl (cc rfl (cc rfl (cc rfl (cc rfl cn)))))))))) rfl
                · replace h29 := cf hb26 h29
                  refine okL_guard 50 (Ty.own v9) 49 ((decide (y22.Reg < 0)) || (decide (y22.Reg ≥ a0.Regs))) rfl rfl hb26 rfl rfl (does_move rfl) ?_
                  refine okL_guard 51 (pAt g24 0) 49 ((decide (y22.Reg < 0)) || (decide (y22.Reg ≥ a0.Regs))) rfl rfl hb26 rfl rfl (does_fieldAddrP 0 Tryd.underlying76 rfl Tryd.sizeOf3 rfl rfl) ?_
                  refine okL_guard 52 (tI y22.Reg) 49 ((decide (y22.Reg < 0)) || (decide (y22.Reg ≥ a0.Regs))) rfl rfl hb26 rfl rfl (does_loadB1 Tryd.isAgg3 rfl 0 rfl rfl) ?_
                  obtain ⟨y31, hi32, h29⟩ := bs h29
                  refine okL_guard 53 (Ty.rptr v9 (y22.Reg.toNat * 1)) 49 ((decide (y22.Reg < 0)) || (decide (y22.Reg ≥ a0.Regs))) rfl rfl hb26 rfl rfl (does_indexR (f := lB) (l := s19.2.2) (m := y22.Reg) el79 3 y31 hi32 rfl rfl rfl) ?_
                  refine okL_guard 54 (tB y31) 49 ((decide (y22.Reg < 0)) || (decide (y22.Reg ≥ a0.Regs))) rfl rfl hb26 rfl rfl (does_loadR1 (sz := 1) (f := lB) (l := s19.2.2) 3 y31 0 Tryd.isAgg4 hi32 rfl rfl rfl) ?_
                  refine okL_step 55 (tB y31) rfl rfl (does_pick_f ((decide (y22.Reg < 0)) || (decide (y22.Reg ≥ a0.Regs))) rfl hb26 rfl) ?_
                  refine okL_nil ?_
                  exact okX_meet (I := _) y31 (smh h29) (cc rfl (cc rfl (cc rfl (cc rfl (cc rfl (cc rfl (cc rfl (cc rfl (cc rfl (cc rfl cn)))))))))) rfl
              · intro x30 hx
                obtain rfl : x30 = z27 := hx.symm
                replace h := hz28
                change OkL _ _ _ _ [(2, (pAt g1 0)), (3, (pAt g2 0)), (5, (Ty.own v9)), (6, (tL 1 lIs r10)), (7, (pAt g13 0)), (9, (pAt g24 0)), (33, (tL 5 Spill.ty a1.Spills)), (34, (tI ((a1.Spills).length : Int))), (35, (tI s19.1)), (55, (tB x30))] (Item.blk g24 76 [(tI y22.Reg), (tI y22.Reason), (tI y22.Block), (tI y22.Index), (tL 1 lI y22.Others)] :: Item.blk g13 127 [(tI a0.Params), (tI a0.Regs), (tL 5 Block.ty a0.Blocks), (Ty.val (.map (some g12)))] :: mapL g12 (tL 1 lIs) s19.2.1 :: rowL v9 4 1 lB s19.2.2 :: Item.blk g2 66 [(tL 2 Location.ty a1.Locations), (tL 5 Spill.ty a1.Spills), (tI a1.Slots)] :: Item.blk g1 27 [(tI a0.Params), (tI a0.Regs), (tL 5 Block.ty a0.Blocks)] :: L)
                refine okL_step 56 (tB x30) rfl rfl (does_move rfl) ?_
                obtain ⟨z34, h36, hz35⟩ := bs h
                refine okL_meet (X := Bool) 9 (fun x => z34 = x) (fun x : Bool => [(2, (pAt g1 0)), (3, (pAt g2 0)), (5, (Ty.own v9)), (6, (tL 1 lIs r10)), (7, (pAt g13 0)), (9, (pAt g24 0)), (33, (tL 5 Spill.ty a1.Spills)), (34, (tI ((a1.Spills).length : Int))), (35, (tI s19.1)), (65, (tB x))]) (fun x : Bool => Item.blk g24 76 [(tI y22.Reg), (tI y22.Reason), (tI y22.Block), (tI y22.Index), (tL 1 lI y22.Others)] :: Item.blk g13 127 [(tI a0.Params), (tI a0.Regs), (tL 5 Block.ty a0.Blocks), (Ty.val (.map (some g12)))] :: mapL g12 (tL 1 lIs) s19.2.1 :: rowL v9 4 1 lB s19.2.2 :: Item.blk g2 66 [(tL 2 Location.ty a1.Locations), (tL 5 Spill.ty a1.Spills), (tI a1.Slots)] :: Item.blk g1 27 [(tI a0.Params), (tI a0.Regs), (tL 5 Block.ty a0.Blocks)] :: L) _ rfl ?_ ?_
                · refine okL_split x30 (fun hb33 => ?_) (fun hb33 => ?_)
                  · replace h36 := ct hb33 h36
                    refine okL_skip 57 56 x30 rfl rfl hb33 rfl rfl ?_
                    refine okL_skip 58 56 x30 rfl rfl hb33 rfl rfl ?_
                    refine okL_skip 59 56 x30 rfl rfl hb33 rfl rfl ?_
                    refine okL_skip 60 56 x30 rfl rfl hb33 rfl rfl ?_
                    refine okL_skip 61 56 x30 rfl rfl hb33 rfl rfl ?_
                    refine okL_skip 62 56 x30 rfl rfl hb33 rfl rfl ?_
                    refine okL_skip 63 56 x30 rfl rfl hb33 rfl rfl ?_
                    refine okL_skip 64 56 x30 rfl rfl hb33 rfl rfl ?_
                    refine okL_step 65 (tB true) rfl rfl (does_pick_t x30 rfl hb33 rfl) ?_
                    refine okL_nil ?_
                    exact okX_meet (I := _) true (smh h36) (cc rfl (cc rfl (cc rfl (cc rfl (cc rfl (cc rfl (cc rfl (cc rfl (cc rfl (cc rfl cn)))))))))) rfl
                  · replace h36 := cf hb33 h36
                    refine okL_guard 57 (pAt g2 0) 56 x30 rfl rfl hb33 rfl rfl (does_fieldAddrP 0 Tryd.underlying66 rfl Tryd.sizeOf63 rfl rfl) ?_
                    refine okL_guard 58 (tL 2 Location.ty a1.Locations) 56 x30 rfl rfl hb33 rfl rfl (does_loadB1 Tryd.isAgg63 rfl 4 rfl rfl) ?_
                    refine okL_guard 59 (pAt g24 0) 56 x30 rfl rfl hb33 rfl rfl (does_fieldAddrP 0 Tryd.underlying76 rfl Tryd.sizeOf3 rfl rfl) ?_
                    refine okL_guard 60 (tI y22.Reg) 56 x30 rfl rfl hb33 rfl rfl (does_loadB1 Tryd.isAgg3 rfl 0 rfl rfl) ?_
                    obtain ⟨y38, hi39, h36⟩ := bs h36
                    refine okL_guard 61 (Ty.ptr [(tB y38.InSlot), (tI y38.Index)]) 56 x30 rfl rfl hb33 rfl rfl (does_index (sz := 2) (f := Location.ty) (l := a1.Locations) (n := y22.Reg) y38 Tryd.underlying63 Tryd.sizeOf72 hi39 rfl rfl) ?_
                    refine okL_guard 62 (Ty.ptr [(tB y38.InSlot), (tI y38.Index)]) 56 x30 rfl rfl hb33 rfl rfl (does_fieldAddr [(tB y38.InSlot), (tI y38.Index)] Tryd.underlying72 rfl Tryd.sizeOf4 rfl rfl) ?_
                    refine okL_guard 63 (tB y38.InSlot) 56 x30 rfl rfl hb33 rfl rfl (does_load1 Tryd.isAgg4 rfl) ?_
                    refine okL_guard 64 (tB (!y38.InSlot)) 56 x30 rfl rfl hb33 rfl rfl (does_not rfl) ?_
                    refine okL_step 65 (tB (!y38.InSlot)) rfl rfl (does_pick_f x30 rfl hb33 rfl) ?_
                    refine okL_nil ?_
                    exact okX_meet (I := _) (!y38.InSlot) (smh h36) (cc rfl (cc rfl (cc rfl (cc rfl (cc rfl (cc rfl (cc rfl (cc rfl (cc rfl (cc rfl cn)))))))))) rfl
                · intro x37 hx
                  obtain rfl : x37 = z34 := hx.symm
                  replace h := hz35
                  change OkL _ _ _ _ [(2, (pAt g1 0)), (3, (pAt g2 0)), (5, (Ty.own v9)), (6, (tL 1 lIs r10)), (7, (pAt g13 0)), (9, (pAt g24 0)), (33, (tL 5 Spill.ty a1.Spills)), (34, (tI ((a1.Spills).length : Int))), (35, (tI s19.1)), (65, (tB x37))] (Item.blk g24 76 [(tI y22.Reg), (tI y22.Reason), (tI y22.Block), (tI y22.Index), (tL 1 lI y22.Others)] :: Item.blk g13 127 [(tI a0.Params), (tI a0.Regs), (tL 5 Block.ty a0.Blocks), (Ty.val (.map (some g12)))] :: mapL g12 (tL 1 lIs) s19.2.1 :: rowL v9 4 1 lB s19.2.2 :: Item.blk g2 66 [(tL 2 Location.ty a1.Locations), (tL 5 Spill.ty a1.Spills), (tI a1.Slots)] :: Item.blk g1 27 [(tI a0.Params), (tI a0.Regs), (tL 5 Block.ty a0.Blocks)] :: L)
                  refine okL_nil ?_
                  refine okX_next ?_
                  refine okC_cond (b := x37) rfl (fun hb40 => ?_) (fun hb40 => ?_)
                  · replace h := ct hb40 h
                    refine okC_seq ?_
                    refine okC_region ?_
                    refine okL_step 4 (tB false) rfl rfl (does_assign rfl) ?_
                    refine okL_nil ?_
                    refine okX_next ?_
                    refine okC_ret ?_
                    refine okX_then_ret ?_
                    refine okX_block_ret ?_
                    refine okX_then_ret ?_
                    refine okX_again_ret ?_
                    refine okX_block_ret ?_
                    refine okX_meet_ret ?_
                    replace h := outh h hz17
                    refine okX_then_ret ?_
                    obtain rfl := (smh h).symm
                    refine okX_items [Item.blk g24 76 [(tI y22.Reg), (tI y22.Reason), (tI y22.Block), (tI y22.Index), (tL 1 lI y22.Others)], Item.blk g13 127 [(tI a0.Params), (tI a0.Regs), (tL 5 Block.ty a0.Blocks), (Ty.val (.map (some g12)))], mapL g12 (tL 1 lIs) s19.2.1, rowL v9 4 1 lB s19.2.2, Item.blk g2 66 [(tL 2 Location.ty a1.Locations), (tL 5 Spill.ty a1.Spills), (tI a1.Slots)], Item.blk g1 27 [(tI a0.Params), (tI a0.Regs), (tL 5 Block.ty a0.Blocks)]] (L) (pm 0 rfl (pm 0 rfl (pm 0 rfl (pm 0 rfl (pm 0 rfl (pm 0 rfl (pr _))))))) ?_
                    exact okX_ret1 () Tryd.results49 rfl rfl
                  · replace h := cf hb40 h
                    refine okC_skip ?_
                    refine okX_next ?_
                    refine okC_seq ?_
                    refine okC_region ?_
                    refine okL_step 10 (tB false) rfl rfl (does_assign rfl) ?_
                    refine okL_nil ?_
                    refine okX_next ?_
                    obtain ⟨z43, h45, hz44⟩ := bs h
                    refine okC_meet (X := (Bool × (List (Int × (List (List Int)))) × (List Bool))) (fun x => z43 = x) (fun x : (Bool × (List (Int × (List (List Int)))) × (List Bool)) => [(2, (pAt g1 0)), (3, (pAt g2 0)), (5, (Ty.own v9)), (6, (tL 1 lIs r10)), (7, (pAt g13 0)), (9, (pAt g24 0)), (10, (tB x.1)), (33, (tL 5 Spill.ty a1.Spills)), (34, (tI ((a1.Spills).length : Int))), (35, (tI s19.1))]) (fun x : (Bool × (List (Int × (List (List Int)))) × (List Bool)) => Item.blk g24 76 [(tI y22.Reg), (tI y22.Reason), (tI y22.Block), (tI y22.Index), (tL 1 lI y22.Others)] :: Item.blk g13 127 [(tI a0.Params), (tI a0.Regs), (tL 5 Block.ty a0.Blocks), (Ty.val (.map (some g12)))] :: mapL g12 (tL 1 lIs) x.2.1 :: rowL v9 4 1 lB x.2.2 :: Item.blk g2 66 [(tL 2 Location.ty a1.Locations), (tL 5 Spill.ty a1.Spills), (tI a1.Slots)] :: Item.blk g1 27 [(tI a0.Params), (tI a0.Regs), (tL 5 Block.ty a0.Blocks)] :: L) ?_ ?_
                    · refine okC_seq ?_
                      refine okC_region ?_
                      refine okL_step 66 (pAt g24 1) rfl rfl (does_fieldAddrP 1 Tryd.underlying76 rfl Tryd.sizeOf3 rfl rfl) ?_
                      refine okL_step 67 (tI y22.Reason) rfl rfl (does_loadB1 Tryd.isAgg3 rfl 0 rfl rfl) ?_
                      refine okL_nil ?_
                      refine okX_next ?_
                      refine okC_block ?_
                      refine okC_seq ?_
                      refine okC_region ?_
                      refine okL_step 69 (tB (y22.Reason == 1)) rfl rfl (does_eql rfl rfl) ?_
                      refine okL_step 68 (tB (y22.Reason == 1)) rfl rfl (does_assign rfl) ?_
                      refine okL_nil ?_
                      refine okX_next ?_
                      refine okC_cond (b := (y22.Reason == 1)) rfl (fun hb46 => ?_) (fun hb46 => ?_)
                      · replace h45 := ct hb46 h45
                        refine okC_region ?_
                        refine okL_step 70 (Ty.agg [(tI a0.Params), (tI a0.Regs), (tL 5 Block.ty a0.Blocks), (Ty.val (.map (some g12)))]) rfl rfl (does_loadBA [(tI a0.Params), (tI a0.Regs), (tL 5 Block.ty a0.Blocks), (Ty.val (.map (some g12)))] Tryd.isAgg127 Tryd.sizeOf127 rfl 1 rfl rfl rfl) ?_
                        refine okL_step 71 (Ty.agg [(tI y22.Reg), (tI y22.Reason), (tI y22.Block), (tI y22.Index), (tL 1 lI y22.Others)]) rfl rfl (does_loadBA [(tI y22.Reg), (tI y22.Reason), (tI y22.Block), (tI y22.Index), (tL 1 lI y22.Others)] Tryd.isAgg76 Tryd.sizeOf76 rfl 0 rfl rfl rfl) ?_
                        obtain ⟨r47, hc48, h45⟩ := bs h45
                        refine okL_stepO 72 rfl rfl (doesO_call0 (Item.blk g24 76 [(tI y22.Reg), (tI y22.Reason), (tI y22.Block), (tI y22.Index), (tL 1 lI y22.Others)] :: Item.blk g13 127 [(tI a0.Params), (tI a0.Regs), (tL 5 Block.ty a0.Blocks), (Ty.val (.map (some g12)))] :: rowL v9 4 1 lB s19.2.2 :: Item.blk g2 66 [(tL 2 Location.ty a1.Locations), (tL 5 Spill.ty a1.Spills), (tI a1.Slots)] :: Item.blk g1 27 [(tI a0.Params), (tI a0.Regs), (tL 5 Block.ty a0.Blocks)] :: L) (c_alloccheck_acrossCall K (⟨a0, s19.2.1⟩ : AlloccheckPoints) y22 g12 r47 hc48) rfl Tryd.call88 rfl (pm 2 rfl (pr _)) (fun _ => ?_))
                        refine okL_step 10 (tB r47.1) rfl rfl (does_assign rfl) ?_
                        refine okL_nil ?_
                        refine okX_block_normal ?_
                        refine okX_items [] (Item.blk g24 76 [(tI y22.Reg), (tI y22.Reason), (tI y22.Block), (tI y22.Index), (tL 1 lI y22.Others)] :: Item.blk g13 127 [(tI a0.Params), (tI a0.Regs), (tL 5 Block.ty a0.Blocks), (Ty.val (.map (some g12)))] :: mapL g12 (tL 1 lIs) r47.2 :: rowL v9 4 1 lB s19.2.2 :: Item.blk g2 66 [(tL 2 Location.ty a1.Locations), (tL 5 Spill.ty a1.Spills), (tI a1.Slots)] :: Item.blk g1 27 [(tI a0.Params), (tI a0.Regs), (tL 5 Block.ty a0.Blocks)] :: L) (pm 1 rfl (pm 1 rfl (pm 0 rfl (pm 0 rfl (pm 0 rfl (pm 0 rfl (pr _))))))) ?_
                        exact okX_meet (I := _) (r47.1, r47.2, s19.2.2) (smh h45) (cc rfl (cc rfl (cc rfl (cc rfl (cc rfl (cc rfl (cc rfl (cc rfl (cc rfl (cc rfl cn)))))))))) rfl
                      · replace h45 := cf hb46 h45
                        refine okC_seq ?_
                        refine okC_region ?_
                        refine okL_step 74 (tB (y22.Reason == 2)) rfl rfl (does_eql rfl rfl) ?_
                        refine okL_step 73 (tB (y22.Reason == 2)) rfl rfl (does_assign rfl) ?_
                        refine okL_nil ?_
                        refine okX_next ?_
                        refine okC_cond (b := (y22.Reason == 2)) rfl (fun hb49 => ?_) (fun hb49 => ?_)
                        · replace h45 := ct hb49 h45
                          refine okC_region ?_
                          refine okL_step 75 (Ty.agg [(tI a0.Params), (tI a0.Regs), (tL 5 Block.ty a0.Blocks), (Ty.val (.map (some g12)))]) rfl rfl (does_loadBA [(tI a0.Params), (tI a0.Regs), (tL 5 Block.ty a0.Blocks), (Ty.val (.map (some g12)))] Tryd.isAgg127 Tryd.sizeOf127 rfl 1 rfl rfl rfl) ?_
                          refine okL_step 76 (Ty.agg [(tI y22.Reg), (tI y22.Reason), (tI y22.Block), (tI y22.Index), (tL 1 lI y22.Others)]) rfl rfl (does_loadBA [(tI y22.Reg), (tI y22.Reason), (tI y22.Block), (tI y22.Index), (tL 1 lI y22.Others)] Tryd.isAgg76 Tryd.sizeOf76 rfl 0 rfl rfl rfl) ?_
                          refine okL_step 77 (Ty.own v9) rfl rfl (does_move rfl) ?_
                          obtain ⟨r50, hc51, h45⟩ := bs h45
                          refine okL_stepO 78 rfl rfl (doesO_call0 (Item.blk g24 76 [(tI y22.Reg), (tI y22.Reason), (tI y22.Block), (tI y22.Index), (tL 1 lI y22.Others)] :: Item.blk g13 127 [(tI a0.Params), (tI a0.Regs), (tL 5 Block.ty a0.Blocks), (Ty.val (.map (some g12)))] :: Item.blk g2 66 [(tL 2 Location.ty a1.Locations), (tL 5 Spill.ty a1.Spills), (tI a1.Slots)] :: Item.blk g1 27 [(tI a0.Params), (tI a0.Regs), (tL 5 Block.ty a0.Blocks)] :: L) (c_alloccheck_pressure K (⟨a0, s19.2.1⟩ : AlloccheckPoints) y22 s19.2.2 g12 v9 r50 hc51) rfl Tryd.call89 rfl (pm 2 rfl (pm 2 rfl (pr _))) (fun _ => ?_))
                          refine okL_step 10 (tB r50.1) rfl rfl (does_assign rfl) ?_
                          refine okL_nil ?_
                          refine okX_block_normal ?_
                          refine okX_items [] (Item.blk g24 76 [(tI y22.Reg), (tI y22.Reason), (tI y22.Block), (tI y22.Index), (tL 1 lI y22.Others)] :: Item.blk g13 127 [(tI a0.Params), (tI a0.Regs), (tL 5 Block.ty a0.Blocks), (Ty.val (.map (some g12)))] :: mapL g12 (tL 1 lIs) r50.2.1 :: rowL v9 4 1 lB r50.2.2 :: Item.blk g2 66 [(tL 2 Location.ty a1.Locations), (tL 5 Spill.ty a1.Spills), (tI a1.Slots)] :: Item.blk g1 27 [(tI a0.Params), (tI a0.Regs), (tL 5 Block.ty a0.Blocks)] :: L) (pm 2 rfl (pm 2 rfl (pm 0 rfl (pm 0 rfl (pm 0 rfl (pm 0 rfl (pr _))))))) ?_
                          exact okX_meet (I := _) (r50.1, r50.2.1, r50.2.2) (smh h45) (cc rfl (cc rfl (cc rfl (cc rfl (cc rfl (cc rfl (cc rfl (cc rfl (cc rfl (cc rfl cn)))))))))) rfl
                        · replace h45 := cf hb49 h45
                          refine okC_seq ?_
                          refine okC_region ?_
                          refine okL_step 80 (tB (y22.Reason == 3)) rfl rfl (does_eql rfl rfl) ?_
                          refine okL_step 79 (tB (y22.Reason == 3)) rfl rfl (does_assign rfl) ?_
                          refine okL_nil ?_
                          refine okX_next ?_
                          refine okC_cond (b := (y22.Reason == 3)) rfl (fun hb52 => ?_) (fun hb52 => ?_)
                          · replace h45 := ct hb52 h45
                            refine okC_cov [(2, (pAt g1 0)), (3, (pAt g2 0)), (5, (Ty.own v9)), (6, (tL 1 lIs r10)), (7, (pAt g13 0)), (9, (pAt g24 0)), (10, (tB false)), (33, (tL 5 Spill.ty a1.Spills)), (34, (tI ((a1.Spills).length : Int))), (35, (tI s19.1))] (cc rfl (cc rfl (cc rfl (cc rfl (cc rfl (cc rfl (cc rfl (cc rfl (cc rfl (cc rfl cn)))))))))) ?_
                            obtain ⟨y53, hi54, h45⟩ := bs h45
                            refine okC_draw 8 [some (81, (Ty.agg [(tI a0.Params), (tI a0.Regs), (tL 5 Block.ty a0.Blocks)])), some (82, (Ty.agg [(tL 2 Location.ty a1.Locations), (tL 5 Spill.ty a1.Spills), (tI a1.Slots)])), some (83, (Ty.agg [(tI y22.Reg), (tI y22.Reason), (tI y22.Block), (tI y22.Index), (tL 1 lI y22.Others)])), some (84, (tL 1 lIs r10)), some (85, (pAt g24 0)), some (86, (tI y22.Reg)), some (87, (Ty.ptr [(tL 1 lI y53)])), some (88, (tL 1 lI y53))] ⟨Item.blk g24 76 [(tI y22.Reg), (tI y22.Reason), (tI y22.Block), (tI y22.Index), (tL 1 lI y22.Others)] :: Item.blk g13 127 [(tI a0.Params), (tI a0.Regs), (tL 5 Block.ty a0.Blocks), (Ty.val (.map (some g12)))] :: mapL g12 (tL 1 lIs) s19.2.1 :: rowL v9 4 1 lB s19.2.2 :: Item.blk g2 66 [(tL 2 Location.ty a1.Locations), (tL 5 Spill.ty a1.Spills), (tI a1.Slots)] :: Item.blk g1 27 [(tI a0.Params), (tI a0.Regs), (tL 5 Block.ty a0.Blocks)] :: ([] : List Item), Item.blk g24 76 [(tI y22.Reg), (tI y22.Reason), (tI y22.Block), (tI y22.Index), (tL 1 lI y22.Others)] :: Item.blk g13 127 [(tI a0.Params), (tI a0.Regs), (tL 5 Block.ty a0.Blocks), (Ty.val (.map (some g12)))] :: mapL g12 (tL 1 lIs) s19.2.1 :: rowL v9 4 1 lB s19.2.2 :: Item.blk g2 66 [(tL 2 Location.ty a1.Locations), (tL 5 Spill.ty a1.Spills), (tI a1.Slots)] :: Item.blk g1 27 [(tI a0.Params), (tI a0.Regs), (tL 5 Block.ty a0.Blocks)] :: ([] : List Item), []⟩ [] mixed rfl rfl (by kernel_rfl) rfl (by kernel_rfl) rfl rfl rfl (fun _ h => List.Sublist.subset (.cons_cons _ (.cons_cons _ (.cons_cons _ (.cons_cons _ (.cons_cons _ (.cons_cons _ (List.nil_sublist _))))))) h) (fun _ h => List.Sublist.subset (.cons_cons _ (.cons_cons _ (.cons_cons _ (.cons_cons _ (.cons_cons _ (.cons_cons _ (List.nil_sublist _))))))) h) rfl (by kernel_rfl) (.inr ⟨by kernel_rfl, by kernel_rfl⟩) (by kernel_rfl) (by kernel_rfl) (dc (draw_plain rfl (does_loadBA [(tI a0.Params), (tI a0.Regs), (tL 5 Block.ty a0.Blocks)] Tryd.isAgg27 Tryd.sizeOf27 rfl 5 rfl rfl rfl)) (dc (draw_plain rfl (does_loadBA [(tL 2 Location.ty a1.Locations), (tL 5 Spill.ty a1.Spills), (tI a1.Slots)] Tryd.isAgg66 Tryd.sizeOf66 rfl 4 rfl rfl rfl)) (dc (draw_plain rfl (does_loadBA [(tI y22.Reg), (tI y22.Reason), (tI y22.Block), (tI y22.Index), (tL 1 lI y22.Others)] Tryd.isAgg76 Tryd.sizeOf76 rfl 0 rfl rfl rfl)) (dc (draw_plain rfl (does_move rfl)) (dc (draw_plain rfl (does_fieldAddrP 0 Tryd.underlying76 rfl Tryd.sizeOf3 rfl rfl)) (dc (draw_plain rfl (does_loadB1 Tryd.isAgg3 rfl 0 rfl rfl)) (dc (draw_plain rfl (does_index (sz := 1) (f := lIs) (l := r10) (n := y22.Reg) y53 Tryd.underlying22 Tryd.sizeOf31 hi54 rfl rfl)) (dc (draw_plain rfl (does_load1 Tryd.isAgg31 rfl)) (dn))))))))) ?_
                            refine ch_end ?_
                            change OkL _ _ _ _ [(81, (Ty.agg [(tI a0.Params), (tI a0.Regs), (tL 5 Block.ty a0.Blocks)])), (82, (Ty.agg [(tL 2 Location.ty a1.Locations), (tL 5 Spill.ty a1.Spills), (tI a1.Slots)])), (83, (Ty.agg [(tI y22.Reg), (tI y22.Reason), (tI y22.Block), (tI y22.Index), (tL 1 lI y22.Others)])), (84, (tL 1 lIs r10)), (85, (pAt g24 0)), (86, (tI y22.Reg)), (87, (Ty.ptr [(tL 1 lI y53)])), (88, (tL 1 lI y53)), (2, (pAt g1 0)), (3, (pAt g2 0)), (5, (Ty.own v9)), (6, (tL 1 lIs r10)), (7, (pAt g13 0)), (9, (pAt g24 0)), (10, (tB false)), (33, (tL 5 Spill.ty a1.Spills)), (34, (tI ((a1.Spills).length : Int))), (35, (tI s19.1))] (Item.blk g24 76 [(tI y22.Reg), (tI y22.Reason), (tI y22.Block), (tI y22.Index), (tL 1 lI y22.Others)] :: Item.blk g13 127 [(tI a0.Params), (tI a0.Regs), (tL 5 Block.ty a0.Blocks), (Ty.val (.map (some g12)))] :: mapL g12 (tL 1 lIs) s19.2.1 :: rowL v9 4 1 lB s19.2.2 :: Item.blk g2 66 [(tL 2 Location.ty a1.Locations), (tL 5 Spill.ty a1.Spills), (tI a1.Slots)] :: Item.blk g1 27 [(tI a0.Params), (tI a0.Regs), (tL 5 Block.ty a0.Blocks)] :: L)
                            obtain ⟨r55, hc56, h45⟩ := bs h45
                            refine okL_step 89 (tB r55) rfl rfl (does_call0 (c_alloccheck_coloring K a0 a1 y22 y53 r55 hc56) rfl Tryd.call90 rfl) ?_
                            refine okL_step 10 (tB r55) rfl rfl (does_assign rfl) ?_
                            refine okL_nil ?_
                            refine okX_block_normal ?_
                            exact okX_meet (I := _) (r55, s19.2.1, s19.2.2) (smh h45) (cc rfl (cc rfl (cc rfl (cc rfl (cc rfl (cc rfl (cc rfl (cc rfl (cc rfl (cc rfl cn)))))))))) rfl
                          · replace h45 := cf hb52 h45
                            refine okC_skip ?_
                            refine okX_block_normal ?_
                            exact okX_meet (I := _) (false, s19.2.1, s19.2.2) (smh h45) (cc rfl (cc rfl (cc rfl (cc rfl (cc rfl (cc rfl (cc rfl (cc rfl (cc rfl (cc rfl cn)))))))))) rfl
                    · intro s41 hx
                      change OkC _ _ _ [(2, (pAt g1 0)), (3, (pAt g2 0)), (5, (Ty.own v9)), (6, (tL 1 lIs r10)), (7, (pAt g13 0)), (9, (pAt g24 0)), (10, (tB s41.1)), (33, (tL 5 Spill.ty a1.Spills)), (34, (tI ((a1.Spills).length : Int))), (35, (tI s19.1))] (Item.blk g24 76 [(tI y22.Reg), (tI y22.Reason), (tI y22.Block), (tI y22.Index), (tL 1 lI y22.Others)] :: Item.blk g13 127 [(tI a0.Params), (tI a0.Regs), (tL 5 Block.ty a0.Blocks), (Ty.val (.map (some g12)))] :: mapL g12 (tL 1 lIs) s41.2.1 :: rowL v9 4 1 lB s41.2.2 :: Item.blk g2 66 [(tL 2 Location.ty a1.Locations), (tL 5 Spill.ty a1.Spills), (tI a1.Slots)] :: Item.blk g1 27 [(tI a0.Params), (tI a0.Regs), (tL 5 Block.ty a0.Blocks)] :: L)
                      obtain rfl : s41 = z43 := hx.symm
                      replace h := hz44
                      refine okC_seq ?_
                      refine okC_seq ?_
                      refine okC_region ?_
                      refine okL_step 90 (tB s41.1) rfl rfl (does_move rfl) ?_
                      refine okL_step 91 (tB (!s41.1)) rfl rfl (does_not rfl) ?_
                      refine okL_nil ?_
                      refine okX_next ?_
                      refine okC_cond (b := (!s41.1)) rfl (fun hb57 => ?_) (fun hb57 => ?_)
                      · replace h := ct hb57 h
                        refine okC_seq ?_
                        refine okC_region ?_
                        refine okL_step 4 (tB false) rfl rfl (does_assign rfl) ?_
                        refine okL_nil ?_
                        refine okX_next ?_
                        refine okC_ret ?_
                        refine okX_then_ret ?_
                        refine okX_block_ret ?_
                        refine okX_then_ret ?_
                        refine okX_again_ret ?_
                        refine okX_block_ret ?_
                        refine okX_meet_ret ?_
                        replace h := outh h hz17
                        refine okX_then_ret ?_
                        obtain rfl := (smh h).symm
                        refine okX_items [Item.blk g24 76 [(tI y22.Reg), (tI y22.Reason), (tI y22.Block), (tI y22.Index), (tL 1 lI y22.Others)], Item.blk g13 127 [(tI a0.Params), (tI a0.Regs), (tL 5 Block.ty a0.Blocks), (Ty.val (.map (some g12)))], mapL g12 (tL 1 lIs) s41.2.1, rowL v9 4 1 lB s41.2.2, Item.blk g2 66 [(tL 2 Location.ty a1.Locations), (tL 5 Spill.ty a1.Spills), (tI a1.Slots)], Item.blk g1 27 [(tI a0.Params), (tI a0.Regs), (tL 5 Block.ty a0.Blocks)]] (L) (pm 0 rfl (pm 0 rfl (pm 0 rfl (pm 0 rfl (pm 0 rfl (pm 0 rfl (pr _))))))) ?_
                        exact okX_ret1 () Tryd.results49 rfl rfl
                      · replace h := cf hb57 h
                        refine okC_skip ?_
                        refine okX_next ?_
                        refine okC_region ?_
                        refine okL_step 92 (Ty.own v9) rfl rfl (does_move rfl) ?_
                        refine okL_step 93 (pAt g24 0) rfl rfl (does_fieldAddrP 0 Tryd.underlying76 rfl Tryd.sizeOf3 rfl rfl) ?_
                        refine okL_step 94 (tI y22.Reg) rfl rfl (does_loadB1 Tryd.isAgg3 rfl 0 rfl rfl) ?_
                        obtain ⟨y58, hi59, h⟩ := bs h
                        refine okL_step 95 (Ty.rptr v9 (y22.Reg.toNat * 1)) rfl rfl (does_indexR (f := lB) (l := s41.2.2) (m := y22.Reg) el79 3 y58 hi59 rfl rfl rfl) ?_
                        refine okL_stepU rfl (doesO_storeR (f := lB) (l := s41.2.2) (sz := 1) (ps := [(tB true)]) (y0 := y58) (y1 := true) (m := y22.Reg) 3 0 (s41.2.2.set y22.Reg.toNat true) (Item.blk g24 76 [(tI y22.Reg), (tI y22.Reason), (tI y22.Block), (tI y22.Index), (tL 1 lI y22.Others)] :: Item.blk g13 127 [(tI a0.Params), (tI a0.Regs), (tL 5 Block.ty a0.Blocks), (Ty.val (.map (some g12)))] :: mapL g12 (tL 1 lIs) s41.2.1 :: rowL v9 4 1 lB (s41.2.2.set y22.Reg.toNat true) :: Item.blk g2 66 [(tL 2 Location.ty a1.Locations), (tL 5 Spill.ty a1.Spills), (tI a1.Slots)] :: Item.blk g1 27 [(tI a0.Params), (tI a0.Regs), (tL 5 Block.ty a0.Blocks)] :: L) rfl rfl (part_one (one_b _)) Tryd.sizeOf4 rfl hi59 rfl rfl rfl rfl rfl ?_)
                        refine okL_nil ?_
                        refine okX_block_normal ?_
                        refine okX_next ?_
                        refine okC_region ?_
                        refine okL_step 96 (tI (w64 (s19.1 + 1))) rfl rfl (does_add rfl rfl) ?_
                        refine okL_step 35 (tI (w64 (s19.1 + 1))) rfl rfl (does_move rfl) ?_
                        refine okL_nil ?_
                        refine okX_items [Item.blk g24 76 [(tI y22.Reg), (tI y22.Reason), (tI y22.Block), (tI y22.Index), (tL 1 lI y22.Others)]] (Item.blk g13 127 [(tI a0.Params), (tI a0.Regs), (tL 5 Block.ty a0.Blocks), (Ty.val (.map (some g12)))] :: mapL g12 (tL 1 lIs) s41.2.1 :: rowL v9 4 1 lB (s41.2.2.set y22.Reg.toNat true) :: Item.blk g2 66 [(tL 2 Location.ty a1.Locations), (tL 5 Spill.ty a1.Spills), (tI a1.Slots)] :: Item.blk g1 27 [(tI a0.Params), (tI a0.Regs), (tL 5 Block.ty a0.Blocks)] :: L) (pm 0 rfl (pm 0 rfl (pm 0 rfl (pm 0 rfl (pm 0 rfl (pm 0 rfl (pr _))))))) ?_
                        exact okX_again k (Nat.lt_succ_self k) ((w64 (s19.1 + 1)), s41.2.1, (s41.2.2.set y22.Reg.toNat true)) h (cc rfl (cc rfl (cc rfl (cc rfl (cc rfl (cc rfl (cc rfl (cc rfl cn)))))))) rfl
          · replace h := cf hb21 h
            refine okC_exit ?_
            refine okX_then_exit ?_
            refine okX_again_exit ?_
            refine okX_block_hit ?_
            exact okX_meet (I := _) (s19.2.1, s19.2.2) (innh h) (cc rfl (cc rfl cn)) rfl
      · intro s14 hx
        change OkX _ _ _ [(3, (pAt g2 0)), (5, (Ty.own v9))] (Item.blk g13 127 [(tI a0.Params), (tI a0.Regs), (tL 5 Block.ty a0.Blocks), (Ty.val (.map (some g12)))] :: mapL g12 (tL 1 lIs) s14.1 :: rowL v9 4 1 lB s14.2 :: Item.blk g2 66 [(tL 2 Location.ty a1.Locations), (tL 5 Spill.ty a1.Spills), (tI a1.Slots)] :: Item.blk g1 27 [(tI a0.Params), (tI a0.Regs), (tL 5 Block.ty a0.Blocks)] :: L)
        have hx : z16 = .inl s14 := hx
        subst hx
        replace h := hz17
        refine okX_next ?_
        refine okC_seq ?_
        refine okC_seq ?_
        refine okC_region ?_
        refine okL_step 97 (pAt g2 0) rfl rfl (does_fieldAddrP 0 Tryd.underlying66 rfl Tryd.sizeOf63 rfl rfl) ?_
        refine okL_step 98 (tL 2 Location.ty a1.Locations) rfl rfl (does_loadB1 Tryd.isAgg63 rfl 3 rfl rfl) ?_
        refine okL_step 99 (tI ((a1.Locations).length : Int)) rfl rfl (does_len (sz := 2) (f := Location.ty) (l := a1.Locations) rfl Tryd.underlying63 rfl) ?_
        refine okL_step 100 (tI 0) rfl rfl (does_move rfl) ?_
        refine okL_nil ?_
        refine okX_next ?_
        obtain ⟨z63, h65, hz64⟩ := sqs h
        refine okC_meetE (X := Unit) (fun x => z63 = .inl x) (fun x : Unit => []) (fun x : Unit => Item.blk g13 127 [(tI a0.Params), (tI a0.Regs), (tL 5 Block.ty a0.Blocks), (Ty.val (.map (some g12)))] :: mapL g12 (tL 1 lIs) s14.1 :: rowL v9 4 1 lB s14.2 :: Item.blk g2 66 [(tL 2 Location.ty a1.Locations), (tL 5 Spill.ty a1.Spills), (tI a1.Slots)] :: Item.blk g1 27 [(tI a0.Params), (tI a0.Regs), (tL 5 Block.ty a0.Blocks)] :: L) ?_ ?_
        · refine okC_block ?_
          refine okC_loop (X := Int) (fun k x => alloccheck_Justified_l2 K a1 s14 k x = some z63) (fun x : Int => [(5, (Ty.own v9)), (98, (tL 2 Location.ty a1.Locations)), (99, (tI ((a1.Locations).length : Int))), (100, (tI x))]) (fun x : Int => Item.blk g13 127 [(tI a0.Params), (tI a0.Regs), (tL 5 Block.ty a0.Blocks), (Ty.val (.map (some g12)))] :: mapL g12 (tL 1 lIs) s14.1 :: rowL v9 4 1 lB s14.2 :: Item.blk g2 66 [(tL 2 Location.ty a1.Locations), (tL 5 Spill.ty a1.Spills), (tI a1.Slots)] :: Item.blk g1 27 [(tI a0.Params), (tI a0.Regs), (tL 5 Block.ty a0.Blocks)] :: L) K 0 h65 (cc rfl (cc rfl (cc rfl (cc rfl cn)))) rfl (fun k s66 hI => ?_)
          change OkC _ _ _ [(5, (Ty.own v9)), (98, (tL 2 Location.ty a1.Locations)), (99, (tI ((a1.Locations).length : Int))), (100, (tI s66))] (Item.blk g13 127 [(tI a0.Params), (tI a0.Regs), (tL 5 Block.ty a0.Blocks), (Ty.val (.map (some g12)))] :: mapL g12 (tL 1 lIs) s14.1 :: rowL v9 4 1 lB s14.2 :: Item.blk g2 66 [(tL 2 Location.ty a1.Locations), (tL 5 Spill.ty a1.Spills), (tI a1.Slots)] :: Item.blk g1 27 [(tI a0.Params), (tI a0.Regs), (tL 5 Block.ty a0.Blocks)] :: L)
          cases k with
          | zero => exact (nz hI).elim
          | succ k =>
            have h : alloccheck_Justified_l2 K a1 s14 (k + 1) s66 = some z63 := hI
            rw [alloccheck_Justified_l2.eq_2] at h
            refine okC_seq ?_
            refine okC_region ?_
            refine okL_step 101 (tB (decide (s66 < ((a1.Locations).length : Int)))) rfl rfl (does_lss rfl rfl) ?_
            refine okL_nil ?_
            refine okX_next ?_
            refine okC_seq ?_
            refine okC_cond (b := (decide (s66 < ((a1.Locations).length : Int)))) rfl (fun hb68 => ?_) (fun hb68 => ?_)
            · replace h := ct hb68 h
              refine okC_skip ?_
              refine okX_next ?_
              refine okC_seq ?_
              refine okC_block ?_
              refine okC_seq ?_
              refine okC_region ?_
              refine okL_step 102 (tI s66) rfl rfl (does_move rfl) ?_
              obtain ⟨y69, hi70, h⟩ := bs h
              refine okL_step 103 (Ty.ptr [(tB y69.InSlot), (tI y69.Index)]) rfl rfl (does_index (sz := 2) (f := Location.ty) (l := a1.Locations) (n := s66) y69 Tryd.underlying63 Tryd.sizeOf72 hi70 rfl rfl) ?_
              refine okL_step 104 (Ty.agg [(tB y69.InSlot), (tI y69.Index)]) rfl rfl (does_loadA [(tB y69.InSlot), (tI y69.Index)] Tryd.isAgg72 Tryd.sizeOf72 rfl rfl rfl) ?_
              refine okL_stepO 12 rfl rfl (doesO_alloc [(tB false), (tI 0)] Tryd.zeroValue72 (part_of (sub_agg [(.bool false), (.int .i64 0)] rfl) (part_agg _)) (fun g71 => ?_))
              refine okL_step 11 (tI s66) rfl rfl (does_assign rfl) ?_
              refine okL_stepU rfl (doesO_storeB (ps := [(tB y69.InSlot), (tI y69.Index)]) 0 [(tB y69.InSlot), (tI y69.Index)] (Item.blk g71 72 [(tB y69.InSlot), (tI y69.Index)] :: Item.blk g13 127 [(tI a0.Params), (tI a0.Regs), (tL 5 Block.ty a0.Blocks), (Ty.val (.map (some g12)))] :: mapL g12 (tL 1 lIs) s14.1 :: rowL v9 4 1 lB s14.2 :: Item.blk g2 66 [(tL 2 Location.ty a1.Locations), (tL 5 Spill.ty a1.Spills), (tI a1.Slots)] :: Item.blk g1 27 [(tI a0.Params), (tI a0.Regs), (tL 5 Block.ty a0.Blocks)] :: L) rfl rfl (part_agg _) Tryd.sizeOf72 rfl rfl rfl rfl ?_)
              refine okL_nil ?_
              refine okX_next ?_
              refine okC_seq ?_
              refine okC_region ?_
              refine okL_step 105 (pAt g71 0) rfl rfl (does_fieldAddrP 0 Tryd.underlying72 rfl Tryd.sizeOf4 rfl rfl) ?_
              refine okL_step 106 (tB y69.InSlot) rfl rfl (does_loadB1 Tryd.isAgg4 rfl 0 rfl rfl) ?_
              refine okL_step 107 (tB y69.InSlot) rfl rfl (does_move rfl) ?_
              obtain ⟨z73, h75, hz74⟩ := bs h
              refine okL_meet (X := Bool) 6 (fun x => z73 = x) (fun x : Bool => [(5, (Ty.own v9)), (98, (tL 2 Location.ty a1.Locations)), (99, (tI ((a1.Locations).length : Int))), (100, (tI s66)), (113, (tB x))]) (fun x : Bool => Item.blk g71 72 [(tB y69.InSlot), (tI y69.Index)] :: Item.blk g13 127 [(tI a0.Params), (tI a0.Regs), (tL 5 Block.ty a0.Blocks), (Ty.val (.map (some g12)))] :: mapL g12 (tL 1 lIs) s14.1 :: rowL v9 4 1 lB s14.2 :: Item.blk g2 66 [(tL 2 Location.ty a1.Locations), (tL 5 Spill.ty a1.Spills), (tI a1.Slots)] :: Item.blk g1 27 [(tI a0.Params), (tI a0.Regs), (tL 5 Block.ty a0.Blocks)] :: L) _ rfl ?_ ?_
              · refine okL_split y69.InSlot (fun hb72 => ?_) (fun hb72 => ?_)
                · replace h75 := ct hb72 h75
                  refine okL_guard 108 (Ty.own v9) 107 y69.InSlot rfl rfl hb72 rfl rfl (does_move rfl) ?_
                  refine okL_guard 109 (tI s66) 107 y69.InSlot rfl rfl hb72 rfl rfl (does_move rfl) ?_
                  obtain ⟨y77, hi78, h75⟩ := bs h75
                  refine okL_guard 110 (Ty.rptr v9 (s66.toNat * 1)) 107 y69.InSlot rfl rfl hb72 rfl rfl (does_indexR (f := lB) (l := s14.2) (m := s66) el79 3 y77 hi78 rfl rfl rfl) ?_
                  refine okL_guard 111 (tB y77) 107 y69.InSlot rfl rfl hb72 rfl rfl (does_loadR1 (sz := 1) (f := lB) (l := s14.2) 3 y77 0 Tryd.isAgg4 hi78 rfl rfl rfl) ?_
                  refine okL_guard 112 (tB (!y77)) 107 y69.InSlot rfl rfl hb72 rfl rfl (does_not rfl) ?_
                  refine okL_step 113 (tB (!y77)) rfl rfl (does_pick_t y69.InSlot rfl hb72 rfl) ?_
                  refine okL_nil ?_
                  exact okX_meet (I := _) (!y77) (smh h75) (cc rfl (cc rfl (cc rfl (cc rfl (cc rfl cn))))) rfl
                · replace h75 := cf hb72 h75
                  refine okL_skip 108 107 y69.InSlot rfl rfl hb72 rfl rfl ?_
                  refine okL_skip 109 107 y69.InSlot rfl rfl hb72 rfl rfl ?_
                  refine okL_skip 110 107 y69.InSlot rfl rfl hb72 rfl rfl ?_
                  refine okL_skip 111 107 y69.InSlot rfl rfl hb72 rfl rfl ?_
                  refine okL_skip 112 107 y69.InSlot rfl rfl hb72 rfl rfl ?_
                  refine okL_step 113 (tB false) rfl rfl (does_pick_f y69.InSlot rfl hb72 rfl) ?_
                  refine okL_nil ?_
                  exact okX_meet (I := _) false (smh h75) (cc rfl (cc rfl (cc rfl (cc rfl (cc rfl cn))))) rfl
              · intro x76 hx
                obtain rfl : x76 = z73 := hx.symm
                replace h := hz74
                change OkL _ _ _ _ [(5, (Ty.own v9)), (98, (tL 2 Location.ty a1.Locations)), (99, (tI ((a1.Locations).length : Int))), (100, (tI s66)), (113, (tB x76))] (Item.blk g71 72 [(tB y69.InSlot), (tI y69.Index)] :: Item.blk g13 127 [(tI a0.Params), (tI a0.Regs), (tL 5 Block.ty a0.Blocks), (Ty.val (.map (some g12)))] :: mapL g12 (tL 1 lIs) s14.1 :: rowL v9 4 1 lB s14.2 :: Item.blk g2 66 [(tL 2 Location.ty a1.Locations), (tL 5 Spill.ty a1.Spills), (tI a1.Slots)] :: Item.blk g1 27 [(tI a0.Params), (tI a0.Regs), (tL 5 Block.ty a0.Blocks)] :: L)
                refine okL_nil ?_
                refine okX_next ?_
                refine okC_cond (b := x76) rfl (fun hb79 => ?_) (fun hb79 => ?_)
                · replace h := ct hb79 h
                  refine okC_seq ?_
                  refine okC_region ?_
                  refine okL_step 4 (tB false) rfl rfl (does_assign rfl) ?_
                  refine okL_nil ?_
                  refine okX_next ?_
                  refine okC_ret ?_
                  refine okX_block_ret ?_
                  refine okX_then_ret ?_
                  refine okX_again_ret ?_
                  refine okX_block_ret ?_
                  refine okX_meet_ret ?_
                  replace h := outh h hz64
                  refine okX_then_ret ?_
                  obtain rfl := (smh h).symm
                  refine okX_items [Item.blk g71 72 [(tB y69.InSlot), (tI y69.Index)], Item.blk g13 127 [(tI a0.Params), (tI a0.Regs), (tL 5 Block.ty a0.Blocks), (Ty.val (.map (some g12)))], mapL g12 (tL 1 lIs) s14.1, rowL v9 4 1 lB s14.2, Item.blk g2 66 [(tL 2 Location.ty a1.Locations), (tL 5 Spill.ty a1.Spills), (tI a1.Slots)], Item.blk g1 27 [(tI a0.Params), (tI a0.Regs), (tL 5 Block.ty a0.Blocks)]] (L) (pm 0 rfl (pm 0 rfl (pm 0 rfl (pm 0 rfl (pm 0 rfl (pm 0 rfl (pr _))))))) ?_
                  exact okX_ret1 () Tryd.results49 rfl rfl
                · replace h := cf hb79 h
                  refine okC_skip ?_
                  refine okX_block_normal ?_
                  refine okX_next ?_
                  refine okC_region ?_
                  refine okL_step 114 (tI (w64 (s66 + 1))) rfl rfl (does_add rfl rfl) ?_
                  refine okL_step 100 (tI (w64 (s66 + 1))) rfl rfl (does_move rfl) ?_
                  refine okL_nil ?_
                  refine okX_items [Item.blk g71 72 [(tB y69.InSlot), (tI y69.Index)]] (Item.blk g13 127 [(tI a0.Params), (tI a0.Regs), (tL 5 Block.ty a0.Blocks), (Ty.val (.map (some g12)))] :: mapL g12 (tL 1 lIs) s14.1 :: rowL v9 4 1 lB s14.2 :: Item.blk g2 66 [(tL 2 Location.ty a1.Locations), (tL 5 Spill.ty a1.Spills), (tI a1.Slots)] :: Item.blk g1 27 [(tI a0.Params), (tI a0.Regs), (tL 5 Block.ty a0.Blocks)] :: L) (pm 0 rfl (pm 0 rfl (pm 0 rfl (pm 0 rfl (pm 0 rfl (pm 0 rfl (pr _))))))) ?_
                  exact okX_again k (Nat.lt_succ_self k) (w64 (s66 + 1)) h (cc rfl (cc rfl (cc rfl (cc rfl cn)))) rfl
            · replace h := cf hb68 h
              refine okC_exit ?_
              refine okX_then_exit ?_
              refine okX_again_exit ?_
              refine okX_block_hit ?_
              exact okX_meet (I := _) () (innh h) cn rfl
        · intro s61 hx
          change OkX _ _ _ [] (Item.blk g13 127 [(tI a0.Params), (tI a0.Regs), (tL 5 Block.ty a0.Blocks), (Ty.val (.map (some g12)))] :: mapL g12 (tL 1 lIs) s14.1 :: rowL v9 4 1 lB s14.2 :: Item.blk g2 66 [(tL 2 Location.ty a1.Locations), (tL 5 Spill.ty a1.Spills), (tI a1.Slots)] :: Item.blk g1 27 [(tI a0.Params), (tI a0.Regs), (tL 5 Block.ty a0.Blocks)] :: L)
          have hx : z63 = .inl s61 := hx
          subst hx
          replace h := hz64
          refine okX_next ?_
          refine okC_seq ?_
          refine okC_region ?_
          refine okL_step 4 (tB true) rfl rfl (does_assign rfl) ?_
          refine okL_nil ?_
          refine okX_next ?_
          refine okC_ret ?_
          obtain rfl := (smh h).symm
          refine okX_items [Item.blk g13 127 [(tI a0.Params), (tI a0.Regs), (tL 5 Block.ty a0.Blocks), (Ty.val (.map (some g12)))], mapL g12 (tL 1 lIs) s14.1, rowL v9 4 1 lB s14.2, Item.blk g2 66 [(tL 2 Location.ty a1.Locations), (tL 5 Spill.ty a1.Spills), (tI a1.Slots)], Item.blk g1 27 [(tI a0.Params), (tI a0.Regs), (tL 5 Block.ty a0.Blocks)]] (L) (pm 0 rfl (pm 0 rfl (pm 0 rfl (pm 0 rfl (pm 0 rfl (pr _)))))) ?_
          exact okX_ret1 () Tryd.results49 rfl rfl

def alloccheck_Check (K : Nat) (a0 : VFunc) (a1 : Allocation) : Option Bool :=
  (Option.bind (alloccheck_Sound K a0 a1) (fun r3 => (Option.bind (cnd r3 (Option.bind (alloccheck_Justified K a0 a1) (fun r10 => (some r10))) (some false)) (fun x9 => (some x9)))))

theorem c_alloccheck_Check (K : Nat) (a0 : VFunc) (a1 : Allocation) (r : Bool) (h : alloccheck_Check K a0 a1 = some r) : CallP Tryd.prog glob 48 [(Ty.agg [(tI a0.Params), (tI a0.Regs), (tL 5 Block.ty a0.Blocks)]), (Ty.agg [(tL 2 Location.ty a1.Locations), (tL 5 Spill.ty a1.Spills), (tI a1.Slots)])] (tB r) := by
  refine call_of_code Tryd.func48 rfl Tryd.ntmps48 rfl (fun L w => ?_)
  change OkC _ _ _ [(0, (Ty.agg [(tI a0.Params), (tI a0.Regs), (tL 5 Block.ty a0.Blocks)])), (1, (Ty.agg [(tL 2 Location.ty a1.Locations), (tL 5 Spill.ty a1.Spills), (tI a1.Slots)]))] (L)
  unfold alloccheck_Check at h
  refine okC_seq ?_
  refine okC_region ?_
  refine okL_stepO 2 rfl rfl (doesO_box [(tI a0.Params), (tI a0.Regs), (tL 5 Block.ty a0.Blocks)] rfl (part_agg _) (fun g1 => ?_))
  refine okL_stepO 3 rfl rfl (doesO_box [(tL 2 Location.ty a1.Locations), (tL 5 Spill.ty a1.Spills), (tI a1.Slots)] rfl (part_agg _) (fun g2 => ?_))
  refine okL_step 4 (tB false) rfl rfl (does_assign rfl) ?_
  refine okL_nil ?_
  refine okX_next ?_
  refine okC_seq ?_
  refine okC_region ?_
  refine okL_step 5 (Ty.agg [(tI a0.Params), (tI a0.Regs), (tL 5 Block.ty a0.Blocks)]) rfl rfl (does_loadBA [(tI a0.Params), (tI a0.Regs), (tL 5 Block.ty a0.Blocks)] Tryd.isAgg27 Tryd.sizeOf27 rfl 1 rfl rfl rfl) ?_
  refine okL_step 6 (Ty.agg [(tL 2 Location.ty a1.Locations), (tL 5 Spill.ty a1.Spills), (tI a1.Slots)]) rfl rfl (does_loadBA [(tL 2 Location.ty a1.Locations), (tL 5 Spill.ty a1.Spills), (tI a1.Slots)] Tryd.isAgg66 Tryd.sizeOf66 rfl 0 rfl rfl rfl) ?_
  obtain ⟨r3, hc4, h⟩ := bs h
  refine okL_step 7 (tB r3) rfl rfl (does_call0 (c_alloccheck_Sound K a0 a1 r3 hc4) rfl Tryd.call47 rfl) ?_
  refine okL_step 8 (tB r3) rfl rfl (does_move rfl) ?_
  obtain ⟨z6, h8, hz7⟩ := bs h
  refine okL_meet (X := Bool) 4 (fun x => z6 = x) (fun x : Bool => [(4, (tB false)), (12, (tB x))]) (fun x : Bool => Item.blk g2 66 [(tL 2 Location.ty a1.Locations), (tL 5 Spill.ty a1.Spills), (tI a1.Slots)] :: Item.blk g1 27 [(tI a0.Params), (tI a0.Regs), (tL 5 Block.ty a0.Blocks)] :: L) _ rfl ?_ ?_
  · refine okL_split r3 (fun hb5 => ?_) (fun hb5 => ?_)
    · replace h8 := ct hb5 h8
      refine okL_guard 9 (Ty.agg [(tI a0.Params), (tI a0.Regs), (tL 5 Block.ty a0.Blocks)]) 8 r3 rfl rfl hb5 rfl rfl (does_loadBA [(tI a0.Params), (tI a0.Regs), (tL 5 Block.ty a0.Blocks)] Tryd.isAgg27 Tryd.sizeOf27 rfl 1 rfl rfl rfl) ?_
      refine okL_guard 10 (Ty.agg [(tL 2 Location.ty a1.Locations), (tL 5 Spill.ty a1.Spills), (tI a1.Slots)]) 8 r3 rfl rfl hb5 rfl rfl (does_loadBA [(tL 2 Location.ty a1.Locations), (tL 5 Spill.ty a1.Spills), (tI a1.Slots)] Tryd.isAgg66 Tryd.sizeOf66 rfl 0 rfl rfl rfl) ?_
      obtain ⟨r10, hc11, h8⟩ := bs h8
      refine okL_guard 11 (tB r10) 8 r3 rfl rfl hb5 rfl rfl (does_call0 (c_alloccheck_Justified K a0 a1 r10 hc11) rfl Tryd.call49 rfl) ?_
      refine okL_step 12 (tB r10) rfl rfl (does_pick_t r3 rfl hb5 rfl) ?_
      refine okL_nil ?_
      exact okX_meet (I := _) r10 (smh h8) (cc rfl (cc rfl cn)) rfl
    · replace h8 := cf hb5 h8
      refine okL_skip 9 8 r3 rfl rfl hb5 rfl rfl ?_
      refine okL_skip 10 8 r3 rfl rfl hb5 rfl rfl ?_
      refine okL_skip 11 8 r3 rfl rfl hb5 rfl rfl ?_
      refine okL_step 12 (tB false) rfl rfl (does_pick_f r3 rfl hb5 rfl) ?_
      refine okL_nil ?_
      exact okX_meet (I := _) false (smh h8) (cc rfl (cc rfl cn)) rfl
  · intro x9 hx
    obtain rfl : x9 = z6 := hx.symm
    replace h := hz7
    change OkL _ _ _ _ [(4, (tB false)), (12, (tB x9))] (Item.blk g2 66 [(tL 2 Location.ty a1.Locations), (tL 5 Spill.ty a1.Spills), (tI a1.Slots)] :: Item.blk g1 27 [(tI a0.Params), (tI a0.Regs), (tL 5 Block.ty a0.Blocks)] :: L)
    refine okL_step 4 (tB x9) rfl rfl (does_assign rfl) ?_
    refine okL_nil ?_
    refine okX_next ?_
    refine okC_ret ?_
    obtain rfl := (smh h).symm
    refine okX_items [Item.blk g2 66 [(tL 2 Location.ty a1.Locations), (tL 5 Spill.ty a1.Spills), (tI a1.Slots)], Item.blk g1 27 [(tI a0.Params), (tI a0.Regs), (tL 5 Block.ty a0.Blocks)]] (L) (pm 0 rfl (pm 0 rfl (pr _))) ?_
    exact okX_ret1 () Tryd.results48 rfl rfl

def law35_AllocCheckExamples (K : Nat) : Option Bool :=
  (Option.bind (Option.bind (law35_pair) (fun r9 => (Option.bind (alloccheck_Check K r9 (⟨([(⟨false, 0⟩ : Location), (⟨false, 1⟩ : Location)] : List Location), [], 0⟩ : Allocation)) (fun r11 => (cnd r11 (Option.bind (law35_pair) (fun r14 => (Option.bind (alloccheck_Sound K r14 (⟨([(⟨false, 0⟩ : Location), (⟨false, 0⟩ : Location)] : List Location), [], 0⟩ : Allocation)) (fun r16 => (cnd (!r16) (Option.bind (law35_pair) (fun r19 => (Option.bind (alloccheck_Sound K r19 (⟨([(⟨false, 0⟩ : Location), (⟨true, 0⟩ : Location)] : List Location), ([(⟨1, 2, 0, 2, ([0] : List Int)⟩ : Spill)] : List Spill), 1⟩ : Allocation)) (fun r21 => (cnd r21 (Option.bind (law35_pair) (fun r24 => (Option.bind (alloccheck_Justified K r24 (⟨([(⟨false, 0⟩ : Location), (⟨true, 0⟩ : Location)] : List Location), ([(⟨1, 2, 0, 2, ([0] : List Int)⟩ : Spill)] : List Spill), 1⟩ : Allocation)) (fun r26 => (cnd (!r26) (Option.bind (law35_pair) (fun r29 => (Option.bind (alloccheck_Check K r29 (⟨([(⟨false, 0⟩ : Location), (⟨true, 0⟩ : Location)] : List Location), ([(⟨1, 2, 0, 2, ([0] : List Int)⟩ : Spill)] : List Spill), 1⟩ : Allocation)) (fun r31 => (some (!r31)))))) (some false)))))) (some false)))))) (some false)))))) (some false)))))) (fun s4 => (some s4)))

theorem c_law35_AllocCheckExamples (K : Nat) (r : Bool) (h : law35_AllocCheckExamples K = some r) : CallP Tryd.prog glob 18 [] (tB r) := by
  refine call_of_code Tryd.func18 rfl Tryd.ntmps18 rfl (fun L w => ?_)
  change OkC _ _ _ [] (L)
  unfold law35_AllocCheckExamples at h
  refine okC_seq ?_
  refine okC_region ?_
  refine okL_step 0 (tB false) rfl rfl (does_assign rfl) ?_
  refine okL_nil ?_
  refine okX_next ?_
  refine okC_seq ?_
  refine okC_region ?_
  refine okL_step 4 (Ty.agg [(tB false), (tI 0)]) rfl rfl (does_build [(tB false), (tI 0)] Tryd.zeroValue72 Tryd.underlying72 (places72 _ Tryd.underlying72) rfl (fn_ rfl)) ?_
  refine okL_step 5 (Ty.agg [(tB false), (tI 1)]) rfl rfl (does_build [(tB false), (tI 1)] Tryd.zeroValue72 Tryd.underlying72 (places72 _ Tryd.underlying72) rfl (fc [(tI 1)] 1 rfl (part_one (one_i _)) rfl rfl (fn_ rfl))) ?_
  refine okL_step 6 (tL 2 Location.ty ([(⟨false, 0⟩ : Location), (⟨false, 1⟩ : Location)] : List Location)) rfl rfl (does_buildSlice (f := Location.ty) ([(⟨false, 0⟩ : Location), (⟨false, 1⟩ : Location)] : List Location) [(tB false), (tI 0), (tB false), (tI 1)] el63 rfl rfl rfl (fc [(tB false), (tI 0)] 0 rfl (part_agg _) rfl rfl (fc [(tB false), (tI 1)] 2 rfl (part_agg _) rfl rfl (fn_ rfl))) rfl (fun _ => rfl)) ?_
  refine okL_step 7 (Ty.agg [(tL 2 Location.ty ([(⟨false, 0⟩ : Location), (⟨false, 1⟩ : Location)] : List Location)), (Ty.val (.slice none 0 0)), (tI 0)]) rfl rfl (does_build [(tL 2 Location.ty ([(⟨false, 0⟩ : Location), (⟨false, 1⟩ : Location)] : List Location)), (Ty.val (.slice none 0 0)), (tI 0)] Tryd.zeroValue66 Tryd.underlying66 (places66 _ Tryd.underlying66) rfl (fc [(tL 2 Location.ty ([(⟨false, 0⟩ : Location), (⟨false, 1⟩ : Location)] : List Location))] 0 rfl (part_one (one_slice _ _)) rfl rfl (fn_ rfl))) ?_
  refine okL_stepO 1 rfl rfl (doesO_alloc [(Ty.val (.slice none 0 0)), (Ty.val (.slice none 0 0)), (tI 0)] Tryd.zeroValue66 (part_of (sub_agg [(.slice none 0 0), (.slice none 0 0), (.int .i64 0)] rfl) (part_agg _)) (fun g1 => ?_))
  refine okL_stepU rfl (doesO_storeB (ps := [(tL 2 Location.ty ([(⟨false, 0⟩ : Location), (⟨false, 1⟩ : Location)] : List Location)), (Ty.val (.slice none 0 0)), (tI 0)]) 0 [(tL 2 Location.ty ([(⟨false, 0⟩ : Location), (⟨false, 1⟩ : Location)] : List Location)), (Ty.val (.slice none 0 0)), (tI 0)] (Item.blk g1 66 [(tL 2 Location.ty ([(⟨false, 0⟩ : Location), (⟨false, 1⟩ : Location)] : List Location)), (Ty.val (.slice none 0 0)), (tI 0)] :: L) rfl rfl (part_agg _) Tryd.sizeOf66 rfl rfl rfl rfl ?_)
  refine okL_nil ?_
  refine okX_next ?_
  refine okC_seq ?_
  refine okC_region ?_
  refine okL_step 8 (Ty.agg [(tB false), (tI 0)]) rfl rfl (does_build [(tB false), (tI 0)] Tryd.zeroValue72 Tryd.underlying72 (places72 _ Tryd.underlying72) rfl (fn_ rfl)) ?_
  refine okL_step 9 (Ty.agg [(tB false), (tI 0)]) rfl rfl (does_build [(tB false), (tI 0)] Tryd.zeroValue72 Tryd.underlying72 (places72 _ Tryd.underlying72) rfl (fn_ rfl)) ?_
  refine okL_step 10 (tL 2 Location.ty ([(⟨false, 0⟩ : Location), (⟨false, 0⟩ : Location)] : List Location)) rfl rfl (does_buildSlice (f := Location.ty) ([(⟨false, 0⟩ : Location), (⟨false, 0⟩ : Location)] : List Location) [(tB false), (tI 0), (tB false), (tI 0)] el63 rfl rfl rfl (fc [(tB false), (tI 0)] 0 rfl (part_agg _) rfl rfl (fc [(tB false), (tI 0)] 2 rfl (part_agg _) rfl rfl (fn_ rfl))) rfl (fun _ => rfl)) ?_
  refine okL_step 11 (Ty.agg [(tL 2 Location.ty ([(⟨false, 0⟩ : Location), (⟨false, 0⟩ : Location)] : List Location)), (Ty.val (.slice none 0 0)), (tI 0)]) rfl rfl (does_build [(tL 2 Location.ty ([(⟨false, 0⟩ : Location), (⟨false, 0⟩ : Location)] : List Location)), (Ty.val (.slice none 0 0)), (tI 0)] Tryd.zeroValue66 Tryd.underlying66 (places66 _ Tryd.underlying66) rfl (fc [(tL 2 Location.ty ([(⟨false, 0⟩ : Location), (⟨false, 0⟩ : Location)] : List Location))] 0 rfl (part_one (one_slice _ _)) rfl rfl (fn_ rfl))) ?_
  refine okL_stepO 2 rfl rfl (doesO_alloc [(Ty.val (.slice none 0 0)), (Ty.val (.slice none 0 0)), (tI 0)] Tryd.zeroValue66 (part_of (sub_agg [(.slice none 0 0), (.slice none 0 0), (.int .i64 0)] rfl) (part_agg _)) (fun g2 => ?_))
  refine okL_stepU rfl (doesO_storeB (ps := [(tL 2 Location.ty ([(⟨false, 0⟩ : Location), (⟨false, 0⟩ : Location)] : List Location)), (Ty.val (.slice none 0 0)), (tI 0)]) 0 [(tL 2 Location.ty ([(⟨false, 0⟩ : Location), (⟨false, 0⟩ : Location)] : List Location)), (Ty.val (.slice none 0 0)), (tI 0)] (Item.blk g2 66 [(tL 2 Location.ty ([(⟨false, 0⟩ : Location), (⟨false, 0⟩ : Location)] : List Location)), (Ty.val (.slice none 0 0)), (tI 0)] :: Item.blk g1 66 [(tL 2 Location.ty ([(⟨false, 0⟩ : Location), (⟨false, 1⟩ : Location)] : List Location)), (Ty.val (.slice none 0 0)), (tI 0)] :: L) rfl rfl (part_agg _) Tryd.sizeOf66 rfl rfl rfl rfl ?_)
  refine okL_nil ?_
  refine okX_next ?_
  refine okC_seq ?_
  refine okC_region ?_
  refine okL_step 12 (Ty.agg [(tB false), (tI 0)]) rfl rfl (does_build [(tB false), (tI 0)] Tryd.zeroValue72 Tryd.underlying72 (places72 _ Tryd.underlying72) rfl (fn_ rfl)) ?_
  refine okL_step 13 (Ty.agg [(tB true), (tI 0)]) rfl rfl (does_build [(tB true), (tI 0)] Tryd.zeroValue72 Tryd.underlying72 (places72 _ Tryd.underlying72) rfl (fc [(tB true)] 0 rfl (part_one (one_b _)) rfl rfl (fn_ rfl))) ?_
  refine okL_step 14 (tL 2 Location.ty ([(⟨false, 0⟩ : Location), (⟨true, 0⟩ : Location)] : List Location)) rfl rfl (does_buildSlice (f := Location.ty) ([(⟨false, 0⟩ : Location), (⟨true, 0⟩ : Location)] : List Location) [(tB false), (tI 0), (tB true), (tI 0)] el63 rfl rfl rfl (fc [(tB false), (tI 0)] 0 rfl (part_agg _) rfl rfl (fc [(tB true), (tI 0)] 2 rfl (part_agg _) rfl rfl (fn_ rfl))) rfl (fun _ => rfl)) ?_
  refine okL_step 15 (tL 1 lI ([0] : List Int)) rfl rfl (does_buildSlice (f := lI) ([0] : List Int) [(tI 0)] el31 rfl rfl rfl (fc [(tI 0)] 0 rfl (part_one (one_i _)) rfl rfl (fn_ rfl)) rfl (fun _ => rfl)) ?_
  refine okL_step 16 (Ty.agg [(tI 1), (tI 2), (tI 0), (tI 2), (tL 1 lI ([0] : List Int))]) rfl rfl (does_build [(tI 1), (tI 2), (tI 0), (tI 2), (tL 1 lI ([0] : List Int))] Tryd.zeroValue76 Tryd.underlying76 (places76 _ Tryd.underlying76) rfl (fc [(tI 1)] 0 rfl (part_one (one_i _)) rfl rfl (fc [(tI 2)] 1 rfl (part_one (one_i _)) rfl rfl (fc [(tI 2)] 3 rfl (part_one (one_i _)) rfl rfl (fc [(tL 1 lI ([0] : List Int))] 4 rfl (part_one (one_slice _ _)) rfl rfl (fn_ rfl)))))) ?_
  refine okL_step 17 (tL 5 Spill.ty ([(⟨1, 2, 0, 2, ([0] : List Int)⟩ : Spill)] : List Spill)) rfl rfl (does_buildSlice (f := Spill.ty) ([(⟨1, 2, 0, 2, ([0] : List Int)⟩ : Spill)] : List Spill) [(tI 1), (tI 2), (tI 0), (tI 2), (tL 1 lI ([0] : List Int))] el64 rfl rfl rfl (fc [(tI 1), (tI 2), (tI 0), (tI 2), (tL 1 lI ([0] : List Int))] 0 rfl (part_agg _) rfl rfl (fn_ rfl)) rfl (fun _ => rfl)) ?_
  refine okL_step 18 (Ty.agg [(tL 2 Location.ty ([(⟨false, 0⟩ : Location), (⟨true, 0⟩ : Location)] : List Location)), (tL 5 Spill.ty ([(⟨1, 2, 0, 2, ([0] : List Int)⟩ : Spill)] : List Spill)), (tI 1)]) rfl rfl (does_build [(tL 2 Location.ty ([(⟨false, 0⟩ : Location), (⟨true, 0⟩ : Location)] : List Location)), (tL 5 Spill.ty ([(⟨1, 2, 0, 2, ([0] : List Int)⟩ : Spill)] : List Spill)), (tI 1)] Tryd.zeroValue66 Tryd.underlying66 (places66 _ Tryd.underlying66) rfl (fc [(tL 2 Location.ty ([(⟨false, 0⟩ : Location), (⟨true, 0⟩ : Location)] : List Location))] 0 rfl (part_one (one_slice _ _)) rfl rfl (fc [(tI 1)] 2 rfl (part_one (one_i _)) rfl rfl (fc [(tL 5 Spill.ty ([(⟨1, 2, 0, 2, ([0] : List Int)⟩ : Spill)] : List Spill))] 1 rfl (part_one (one_slice _ _)) rfl rfl (fn_ rfl))))) ?_
  refine okL_stepO 3 rfl rfl (doesO_alloc [(Ty.val (.slice none 0 0)), (Ty.val (.slice none 0 0)), (tI 0)] Tryd.zeroValue66 (part_of (sub_agg [(.slice none 0 0), (.slice none 0 0), (.int .i64 0)] rfl) (part_agg _)) (fun g3 => ?_))
  refine okL_stepU rfl (doesO_storeB (ps := [(tL 2 Location.ty ([(⟨false, 0⟩ : Location), (⟨true, 0⟩ : Location)] : List Location)), (tL 5 Spill.ty ([(⟨1, 2, 0, 2, ([0] : List Int)⟩ : Spill)] : List Spill)), (tI 1)]) 0 [(tL 2 Location.ty ([(⟨false, 0⟩ : Location), (⟨true, 0⟩ : Location)] : List Location)), (tL 5 Spill.ty ([(⟨1, 2, 0, 2, ([0] : List Int)⟩ : Spill)] : List Spill)), (tI 1)] (Item.blk g3 66 [(tL 2 Location.ty ([(⟨false, 0⟩ : Location), (⟨true, 0⟩ : Location)] : List Location)), (tL 5 Spill.ty ([(⟨1, 2, 0, 2, ([0] : List Int)⟩ : Spill)] : List Spill)), (tI 1)] :: Item.blk g2 66 [(tL 2 Location.ty ([(⟨false, 0⟩ : Location), (⟨false, 0⟩ : Location)] : List Location)), (Ty.val (.slice none 0 0)), (tI 0)] :: Item.blk g1 66 [(tL 2 Location.ty ([(⟨false, 0⟩ : Location), (⟨false, 1⟩ : Location)] : List Location)), (Ty.val (.slice none 0 0)), (tI 0)] :: L) rfl rfl (part_agg _) Tryd.sizeOf66 rfl rfl rfl rfl ?_)
  refine okL_nil ?_
  refine okX_next ?_
  obtain ⟨z6, h8, hz7⟩ := bs h
  refine okC_meet (X := Bool) (fun x => z6 = x) (fun x : Bool => [(0, (tB x))]) (fun x : Bool => Item.blk g3 66 [(tL 2 Location.ty ([(⟨false, 0⟩ : Location), (⟨true, 0⟩ : Location)] : List Location)), (tL 5 Spill.ty ([(⟨1, 2, 0, 2, ([0] : List Int)⟩ : Spill)] : List Spill)), (tI 1)] :: Item.blk g2 66 [(tL 2 Location.ty ([(⟨false, 0⟩ : Location), (⟨false, 0⟩ : Location)] : List Location)), (Ty.val (.slice none 0 0)), (tI 0)] :: Item.blk g1 66 [(tL 2 Location.ty ([(⟨false, 0⟩ : Location), (⟨false, 1⟩ : Location)] : List Location)), (Ty.val (.slice none 0 0)), (tI 0)] :: L) ?_ ?_
  · refine okC_cov [(0, (tB false)), (1, (pAt g1 0)), (2, (pAt g2 0)), (3, (pAt g3 0))] (cc rfl (cc rfl (cc rfl (cc rfl cn)))) ?_
    obtain ⟨r9, hc10, h8⟩ := bs h8
    obtain ⟨r11, hc12, h8⟩ := bs h8
    refine okC_split r11 (fun hb13 => ?_) (fun hb13 => ?_)
    · replace h8 := ct hb13 h8
      obtain ⟨r14, hc15, h8⟩ := bs h8
      obtain ⟨r16, hc17, h8⟩ := bs h8
      refine okC_split (!r16) (fun hb18 => ?_) (fun hb18 => ?_)
      · replace h8 := ct hb18 h8
        obtain ⟨r19, hc20, h8⟩ := bs h8
        obtain ⟨r21, hc22, h8⟩ := bs h8
        refine okC_split r21 (fun hb23 => ?_) (fun hb23 => ?_)
        · replace h8 := ct hb23 h8
          obtain ⟨r24, hc25, h8⟩ := bs h8
          obtain ⟨r26, hc27, h8⟩ := bs h8
          refine okC_split (!r26) (fun hb28 => ?_) (fun hb28 => ?_)
          · replace h8 := ct hb28 h8
            obtain ⟨r29, hc30, h8⟩ := bs h8
            refine okC_draw 23 [some (19, (Ty.agg [(tI r9.Params), (tI r9.Regs), (tL 5 Block.ty r9.Blocks)])), some (20, (Ty.agg [(tL 2 Location.ty ([(⟨false, 0⟩ : Location), (⟨false, 1⟩ : Location)] : List Location)), (Ty.val (.slice none 0 0)), (tI 0)])), some (21, (tB r11)), some (22, (tB r11)), some (23, (Ty.agg [(tI r14.Params), (tI r14.Regs), (tL 5 Block.ty r14.Blocks)])), some (24, (Ty.agg [(tL 2 Location.ty ([(⟨false, 0⟩ : Location), (⟨false, 0⟩ : Location)] : List Location)), (Ty.val (.slice none 0 0)), (tI 0)])), some (25, (tB r16)), some (26, (tB (!r16))), some (27, (tB (!r16))), some (28, (tB (!r16))), some (29, (Ty.agg [(tI r19.Params), (tI r19.Regs), (tL 5 Block.ty r19.Blocks)])), some (30, (Ty.agg [(tL 2 Location.ty ([(⟨false, 0⟩ : Location), (⟨true, 0⟩ : Location)] : List Location)), (tL 5 Spill.ty ([(⟨1, 2, 0, 2, ([0] : List Int)⟩ : Spill)] : List Spill)), (tI 1)])), some (31, (tB r21)), some (32, (tB r21)), some (33, (tB r21)), some (34, (Ty.agg [(tI r24.Params), (tI r24.Regs), (tL 5 Block.ty r24.Blocks)])), some (35, (Ty.agg [(tL 2 Location.ty ([(⟨false, 0⟩ : Location), (⟨true, 0⟩ : Location)] : List Location)), (tL 5 Spill.ty ([(⟨1, 2, 0, 2, ([0] : List Int)⟩ : Spill)] : List Spill)), (tI 1)])), some (36, (tB r26)), some (37, (tB (!r26))), some (38, (tB (!r26))), some (39, (tB (!r26))), some (40, (Ty.agg [(tI r29.Params), (tI r29.Regs), (tL 5 Block.ty r29.Blocks)])), some (41, (Ty.agg [(tL 2 Location.ty ([(⟨false, 0⟩ : Location), (⟨true, 0⟩ : Location)] : List Location)), (tL 5 Spill.ty ([(⟨1, 2, 0, 2, ([0] : List Int)⟩ : Spill)] : List Spill)), (tI 1)]))] ⟨Item.blk g3 66 [(tL 2 Location.ty ([(⟨false, 0⟩ : Location), (⟨true, 0⟩ : Location)] : List Location)), (tL 5 Spill.ty ([(⟨1, 2, 0, 2, ([0] : List Int)⟩ : Spill)] : List Spill)), (tI 1)] :: Item.blk g2 66 [(tL 2 Location.ty ([(⟨false, 0⟩ : Location), (⟨false, 0⟩ : Location)] : List Location)), (Ty.val (.slice none 0 0)), (tI 0)] :: Item.blk g1 66 [(tL 2 Location.ty ([(⟨false, 0⟩ : Location), (⟨false, 1⟩ : Location)] : List Location)), (Ty.val (.slice none 0 0)), (tI 0)] :: ([] : List Item), Item.blk g3 66 [(tL 2 Location.ty ([(⟨false, 0⟩ : Location), (⟨true, 0⟩ : Location)] : List Location)), (tL 5 Spill.ty ([(⟨1, 2, 0, 2, ([0] : List Int)⟩ : Spill)] : List Spill)), (tI 1)] :: Item.blk g2 66 [(tL 2 Location.ty ([(⟨false, 0⟩ : Location), (⟨false, 0⟩ : Location)] : List Location)), (Ty.val (.slice none 0 0)), (tI 0)] :: Item.blk g1 66 [(tL 2 Location.ty ([(⟨false, 0⟩ : Location), (⟨false, 1⟩ : Location)] : List Location)), (Ty.val (.slice none 0 0)), (tI 0)] :: ([] : List Item), []⟩ [] mixed rfl rfl (by kernel_rfl) rfl (by kernel_rfl) rfl rfl rfl (fun _ h => List.Sublist.subset (.cons_cons _ (.cons_cons _ (.cons_cons _ (List.nil_sublist _)))) h) (fun _ h => List.Sublist.subset (.cons_cons _ (.cons_cons _ (.cons_cons _ (List.nil_sublist _)))) h) rfl (by kernel_rfl) (.inr ⟨by kernel_rfl, by kernel_rfl⟩) (by kernel_rfl) (by kernel_rfl) (dc (draw_plain rfl (does_call0 (c_law35_pair r9 hc10) rfl Tryd.call58 rfl)) (dc (draw_plain rfl (does_loadBA [(tL 2 Location.ty ([(⟨false, 0⟩ : Location), (⟨false, 1⟩ : Location)] : List Location)), (Ty.val (.slice none 0 0)), (tI 0)] Tryd.isAgg66 Tryd.sizeOf66 rfl 2 rfl rfl rfl)) (dc (draw_plain rfl (does_callS (c_alloccheck_Check K r9 (⟨([(⟨false, 0⟩ : Location), (⟨false, 1⟩ : Location)] : List Location), [], 0⟩ : Allocation) r11 hc12) rfl Tryd.call48 (.cons rfl (sub_aggs (.cons (sub_refl _) (.cons (sub_refl _) (.cons (sub_refl _) SubL.nil)))) (.cons rfl (sub_aggs (.cons (sub_refl _) (.cons (sub_nil _) (.cons (sub_refl _) SubL.nil)))) ArgSub.nil)))) (dc (draw_plain rfl (does_move rfl)) (dc (draw_on 22 r11 rfl rfl rfl hb13 (does_call0 (c_law35_pair r14 hc15) rfl Tryd.call58 rfl)) (dc (draw_on 22 r11 rfl rfl rfl hb13 (does_loadBA [(tL 2 Location.ty ([(⟨false, 0⟩ : Location), (⟨false, 0⟩ : Location)] : List Location)), (Ty.val (.slice none 0 0)), (tI 0)] Tryd.isAgg66 Tryd.sizeOf66 rfl 1 rfl rfl rfl)) (dc (draw_on 22 r11 rfl rfl rfl hb13 (does_callS (c_alloccheck_Sound K r14 (⟨([(⟨false, 0⟩ : Location), (⟨false, 0⟩ : Location)] : List Location), [], 0⟩ : Allocation) r16 hc17) rfl Tryd.call47 (.cons rfl (sub_aggs (.cons (sub_refl _) (.cons (sub_refl _) (.cons (sub_refl _) SubL.nil)))) (.cons rfl (sub_aggs (.cons (sub_refl _) (.cons (sub_nil _) (.cons (sub_refl _) SubL.nil)))) ArgSub.nil)))) (dc (draw_on 22 r11 rfl rfl rfl hb13 (does_not rfl)) (dc (draw_plain rfl (does_pick_t r11 rfl hb13 rfl)) (dc (draw_plain rfl (does_move rfl)) (dc (draw_on 28 (!r16) rfl rfl rfl hb18 (does_call0 (c_law35_pair r19 hc20) rfl Tryd.call58 rfl)) (dc (draw_on 28 (!r16) rfl rfl rfl hb18 (does_loadBA [(tL 2 Location.ty ([(⟨false, 0⟩ : Location), (⟨true, 0⟩ : Location)] : List Location)), (tL 5 Spill.ty ([(⟨1, 2, 0, 2, ([0] : List Int)⟩ : Spill)] : List Spill)), (tI 1)] Tryd.isAgg66 Tryd.sizeOf66 rfl 0 rfl rfl rfl)) (dc (draw_on 28 (!r16) rfl rfl rfl hb18 (does_call0 (c_alloccheck_Sound K r19 (⟨([(⟨false, 0⟩ : Location), (⟨true, 0⟩ : Location)] : List Location), ([(⟨1, 2, 0, 2, ([0] : List Int)⟩ : Spill)] : List Spill), 1⟩ : Allocation) r21 hc22) rfl Tryd.call47 rfl)) (dc (draw_plain rfl (does_pick_t (!r16) rfl hb18 rfl)) (dc (draw_plain rfl (does_move rfl)) (dc (draw_on 33 r21 rfl rfl rfl hb23 (does_call0 (c_law35_pair r24 hc25) rfl Tryd.call58 rfl)) (dc (draw_on 33 r21 rfl rfl rfl hb23 (does_loadBA [(tL 2 Location.ty ([(⟨false, 0⟩ : Location), (⟨true, 0⟩ : Location)] : List Location)), (tL 5 Spill.ty ([(⟨1, 2, 0, 2, ([0] : List Int)⟩ : Spill)] : List Spill)), (tI 1)] Tryd.isAgg66 Tryd.sizeOf66 rfl 0 rfl rfl rfl)) (dc (draw_on 33 r21 rfl rfl rfl hb23 (does_call0 (c_alloccheck_Justified K r24 (⟨([(⟨false, 0⟩ : Location), (⟨true, 0⟩ : Location)] : List Location), ([(⟨1, 2, 0, 2, ([0] : List Int)⟩ : Spill)] : List Spill), 1⟩ : Allocation) r26 hc27) rfl Tryd.call49 rfl)) (dc (draw_on 33 r21 rfl rfl rfl hb23 (does_not rfl)) (dc (draw_plain rfl (does_pick_t r21 rfl hb23 rfl)) (dc (draw_plain rfl (does_move rfl)) (dc (draw_on 39 (!r26) rfl rfl rfl hb28 (does_call0 (c_law35_pair r29 hc30) rfl Tryd.call58 rfl)) (dc (draw_on 39 (!r26) rfl rfl rfl hb28 (does_loadBA [(tL 2 Location.ty ([(⟨false, 0⟩ : Location), (⟨true, 0⟩ : Location)] : List Location)), (tL 5 Spill.ty ([(⟨1, 2, 0, 2, ([0] : List Int)⟩ : Spill)] : List Spill)), (tI 1)] Tryd.isAgg66 Tryd.sizeOf66 rfl 0 rfl rfl rfl)) (dn)))))))))))))))))))))))) ?_
            refine ch_end ?_
            change OkL _ _ _ _ [(19, (Ty.agg [(tI r9.Params), (tI r9.Regs), (tL 5 Block.ty r9.Blocks)])), (20, (Ty.agg [(tL 2 Location.ty ([(⟨false, 0⟩ : Location), (⟨false, 1⟩ : Location)] : List Location)), (Ty.val (.slice none 0 0)), (tI 0)])), (21, (tB r11)), (22, (tB r11)), (23, (Ty.agg [(tI r14.Params), (tI r14.Regs), (tL 5 Block.ty r14.Blocks)])), (24, (Ty.agg [(tL 2 Location.ty ([(⟨false, 0⟩ : Location), (⟨false, 0⟩ : Location)] : List Location)), (Ty.val (.slice none 0 0)), (tI 0)])), (25, (tB r16)), (26, (tB (!r16))), (27, (tB (!r16))), (28, (tB (!r16))), (29, (Ty.agg [(tI r19.Params), (tI r19.Regs), (tL 5 Block.ty r19.Blocks)])), (30, (Ty.agg [(tL 2 Location.ty ([(⟨false, 0⟩ : Location), (⟨true, 0⟩ : Location)] : List Location)), (tL 5 Spill.ty ([(⟨1, 2, 0, 2, ([0] : List Int)⟩ : Spill)] : List Spill)), (tI 1)])), (31, (tB r21)), (32, (tB r21)), (33, (tB r21)), (34, (Ty.agg [(tI r24.Params), (tI r24.Regs), (tL 5 Block.ty r24.Blocks)])), (35, (Ty.agg [(tL 2 Location.ty ([(⟨false, 0⟩ : Location), (⟨true, 0⟩ : Location)] : List Location)), (tL 5 Spill.ty ([(⟨1, 2, 0, 2, ([0] : List Int)⟩ : Spill)] : List Spill)), (tI 1)])), (36, (tB r26)), (37, (tB (!r26))), (38, (tB (!r26))), (39, (tB (!r26))), (40, (Ty.agg [(tI r29.Params), (tI r29.Regs), (tL 5 Block.ty r29.Blocks)])), (41, (Ty.agg [(tL 2 Location.ty ([(⟨false, 0⟩ : Location), (⟨true, 0⟩ : Location)] : List Location)), (tL 5 Spill.ty ([(⟨1, 2, 0, 2, ([0] : List Int)⟩ : Spill)] : List Spill)), (tI 1)])), (0, (tB false)), (1, (pAt g1 0)), (2, (pAt g2 0)), (3, (pAt g3 0))] (Item.blk g3 66 [(tL 2 Location.ty ([(⟨false, 0⟩ : Location), (⟨true, 0⟩ : Location)] : List Location)), (tL 5 Spill.ty ([(⟨1, 2, 0, 2, ([0] : List Int)⟩ : Spill)] : List Spill)), (tI 1)] :: Item.blk g2 66 [(tL 2 Location.ty ([(⟨false, 0⟩ : Location), (⟨false, 0⟩ : Location)] : List Location)), (Ty.val (.slice none 0 0)), (tI 0)] :: Item.blk g1 66 [(tL 2 Location.ty ([(⟨false, 0⟩ : Location), (⟨false, 1⟩ : Location)] : List Location)), (Ty.val (.slice none 0 0)), (tI 0)] :: L)
            obtain ⟨r31, hc32, h8⟩ := bs h8
            refine okL_guard 42 (tB r31) 39 (!r26) rfl rfl hb28 rfl rfl (does_call0 (c_alloccheck_Check K r29 (⟨([(⟨false, 0⟩ : Location), (⟨true, 0⟩ : Location)] : List Location), ([(⟨1, 2, 0, 2, ([0] : List Int)⟩ : Spill)] : List Spill), 1⟩ : Allocation) r31 hc32) rfl Tryd.call48 rfl) ?_
            refine okL_guard 43 (tB (!r31)) 39 (!r26) rfl rfl hb28 rfl rfl (does_not rfl) ?_
            refine okL_step 44 (tB (!r31)) rfl rfl (does_pick_t (!r26) rfl hb28 rfl) ?_
            refine okL_step 0 (tB (!r31)) rfl rfl (does_assign rfl) ?_
            refine okL_nil ?_
            exact okX_meet (I := _) (!r31) (smh h8) (cc rfl cn) rfl
          · replace h8 := cf hb28 h8
            refine okC_draw 23 [some (19, (Ty.agg [(tI r9.Params), (tI r9.Regs), (tL 5 Block.ty r9.Blocks)])), some (20, (Ty.agg [(tL 2 Location.ty ([(⟨false, 0⟩ : Location), (⟨false, 1⟩ : Location)] : List Location)), (Ty.val (.slice none 0 0)), (tI 0)])), some (21, (tB r11)), some (22, (tB r11)), some (23, (Ty.agg [(tI r14.Params), (tI r14.Regs), (tL 5 Block.ty r14.Blocks)])), some (24, (Ty.agg [(tL 2 Location.ty ([(⟨false, 0⟩ : Location), (⟨false, 0⟩ : Location)] : List Location)), (Ty.val (.slice none 0 0)), (tI 0)])), some (25, (tB r16)), some (26, (tB (!r16))), some (27, (tB (!r16))), some (28, (tB (!r16))), some (29, (Ty.agg [(tI r19.Params), (tI r19.Regs), (tL 5 Block.ty r19.Blocks)])), some (30, (Ty.agg [(tL 2 Location.ty ([(⟨false, 0⟩ : Location), (⟨true, 0⟩ : Location)] : List Location)), (tL 5 Spill.ty ([(⟨1, 2, 0, 2, ([0] : List Int)⟩ : Spill)] : List Spill)), (tI 1)])), some (31, (tB r21)), some (32, (tB r21)), some (33, (tB r21)), some (34, (Ty.agg [(tI r24.Params), (tI r24.Regs), (tL 5 Block.ty r24.Blocks)])), some (35, (Ty.agg [(tL 2 Location.ty ([(⟨false, 0⟩ : Location), (⟨true, 0⟩ : Location)] : List Location)), (tL 5 Spill.ty ([(⟨1, 2, 0, 2, ([0] : List Int)⟩ : Spill)] : List Spill)), (tI 1)])), some (36, (tB r26)), some (37, (tB (!r26))), some (38, (tB (!r26))), some (39, (tB (!r26))), some (40, (Ty.val undef)), some (41, (Ty.val undef))] ⟨Item.blk g3 66 [(tL 2 Location.ty ([(⟨false, 0⟩ : Location), (⟨true, 0⟩ : Location)] : List Location)), (tL 5 Spill.ty ([(⟨1, 2, 0, 2, ([0] : List Int)⟩ : Spill)] : List Spill)), (tI 1)] :: Item.blk g2 66 [(tL 2 Location.ty ([(⟨false, 0⟩ : Location), (⟨false, 0⟩ : Location)] : List Location)), (Ty.val (.slice none 0 0)), (tI 0)] :: Item.blk g1 66 [(tL 2 Location.ty ([(⟨false, 0⟩ : Location), (⟨false, 1⟩ : Location)] : List Location)), (Ty.val (.slice none 0 0)), (tI 0)] :: ([] : List Item), Item.blk g3 66 [(tL 2 Location.ty ([(⟨false, 0⟩ : Location), (⟨true, 0⟩ : Location)] : List Location)), (tL 5 Spill.ty ([(⟨1, 2, 0, 2, ([0] : List Int)⟩ : Spill)] : List Spill)), (tI 1)] :: Item.blk g2 66 [(tL 2 Location.ty ([(⟨false, 0⟩ : Location), (⟨false, 0⟩ : Location)] : List Location)), (Ty.val (.slice none 0 0)), (tI 0)] :: Item.blk g1 66 [(tL 2 Location.ty ([(⟨false, 0⟩ : Location), (⟨false, 1⟩ : Location)] : List Location)), (Ty.val (.slice none 0 0)), (tI 0)] :: ([] : List Item), []⟩ [] mixed rfl rfl (by kernel_rfl) rfl (by kernel_rfl) rfl rfl rfl (fun _ h => List.Sublist.subset (.cons_cons _ (.cons_cons _ (.cons_cons _ (List.nil_sublist _)))) h) (fun _ h => List.Sublist.subset (.cons_cons _ (.cons_cons _ (.cons_cons _ (List.nil_sublist _)))) h) rfl (by kernel_rfl) (.inr ⟨by kernel_rfl, by kernel_rfl⟩) (by kernel_rfl) (by kernel_rfl) (dc (draw_plain rfl (does_call0 (c_law35_pair r9 hc10) rfl Tryd.call58 rfl)) (dc (draw_plain rfl (does_loadBA [(tL 2 Location.ty ([(⟨false, 0⟩ : Location), (⟨false, 1⟩ : Location)] : List Location)), (Ty.val (.slice none 0 0)), (tI 0)] Tryd.isAgg66 Tryd.sizeOf66 rfl 2 rfl rfl rfl)) (dc (draw_plain rfl (does_callS (c_alloccheck_Check K r9 (⟨([(⟨false, 0⟩ : Location), (⟨false, 1⟩ : Location)] : List Location), [], 0⟩ : Allocation) r11 hc12) rfl Tryd.call48 (.cons rfl (sub_aggs (.cons (sub_refl _) (.cons (sub_refl _) (.cons (sub_refl _) SubL.nil)))) (.cons rfl (sub_aggs (.cons (sub_refl _) (.cons (sub_nil _) (.cons (sub_refl _) SubL.nil)))) ArgSub.nil)))) (dc (draw_plain rfl (does_move rfl)) (dc (draw_on 22 r11 rfl rfl rfl hb13 (does_call0 (c_law35_pair r14 hc15) rfl Tryd.call58 rfl)) (dc (draw_on 22 r11 rfl rfl rfl hb13 (does_loadBA [(tL 2 Location.ty ([(⟨false, 0⟩ : Location), (⟨false, 0⟩ : Location)] : List Location)), (Ty.val (.slice none 0 0)), (tI 0)] Tryd.isAgg66 Tryd.sizeOf66 rfl 1 rfl rfl rfl)) (dc (draw_on 22 r11 rfl rfl rfl hb13 (does_callS (c_alloccheck_Sound K r14 (⟨([(⟨false, 0⟩ : Location), (⟨false, 0⟩ : Location)] : List Location), [], 0⟩ : Allocation) r16 hc17) rfl Tryd.call47 (.cons rfl (sub_aggs (.cons (sub_refl _) (.cons (sub_refl _) (.cons (sub_refl _) SubL.nil)))) (.cons rfl (sub_aggs (.cons (sub_refl _) (.cons (sub_nil _) (.cons (sub_refl _) SubL.nil)))) ArgSub.nil)))) (dc (draw_on 22 r11 rfl rfl rfl hb13 (does_not rfl)) (dc (draw_plain rfl (does_pick_t r11 rfl hb13 rfl)) (dc (draw_plain rfl (does_move rfl)) (dc (draw_on 28 (!r16) rfl rfl rfl hb18 (does_call0 (c_law35_pair r19 hc20) rfl Tryd.call58 rfl)) (dc (draw_on 28 (!r16) rfl rfl rfl hb18 (does_loadBA [(tL 2 Location.ty ([(⟨false, 0⟩ : Location), (⟨true, 0⟩ : Location)] : List Location)), (tL 5 Spill.ty ([(⟨1, 2, 0, 2, ([0] : List Int)⟩ : Spill)] : List Spill)), (tI 1)] Tryd.isAgg66 Tryd.sizeOf66 rfl 0 rfl rfl rfl)) (dc (draw_on 28 (!r16) rfl rfl rfl hb18 (does_call0 (c_alloccheck_Sound K r19 (⟨([(⟨false, 0⟩ : Location), (⟨true, 0⟩ : Location)] : List Location), ([(⟨1, 2, 0, 2, ([0] : List Int)⟩ : Spill)] : List Spill), 1⟩ : Allocation) r21 hc22) rfl Tryd.call47 rfl)) (dc (draw_plain rfl (does_pick_t (!r16) rfl hb18 rfl)) (dc (draw_plain rfl (does_move rfl)) (dc (draw_on 33 r21 rfl rfl rfl hb23 (does_call0 (c_law35_pair r24 hc25) rfl Tryd.call58 rfl)) (dc (draw_on 33 r21 rfl rfl rfl hb23 (does_loadBA [(tL 2 Location.ty ([(⟨false, 0⟩ : Location), (⟨true, 0⟩ : Location)] : List Location)), (tL 5 Spill.ty ([(⟨1, 2, 0, 2, ([0] : List Int)⟩ : Spill)] : List Spill)), (tI 1)] Tryd.isAgg66 Tryd.sizeOf66 rfl 0 rfl rfl rfl)) (dc (draw_on 33 r21 rfl rfl rfl hb23 (does_call0 (c_alloccheck_Justified K r24 (⟨([(⟨false, 0⟩ : Location), (⟨true, 0⟩ : Location)] : List Location), ([(⟨1, 2, 0, 2, ([0] : List Int)⟩ : Spill)] : List Spill), 1⟩ : Allocation) r26 hc27) rfl Tryd.call49 rfl)) (dc (draw_on 33 r21 rfl rfl rfl hb23 (does_not rfl)) (dc (draw_plain rfl (does_pick_t r21 rfl hb23 rfl)) (dc (draw_plain rfl (does_move rfl)) (dc (draw_off 39 (!r26) rfl rfl rfl hb28) (dc (draw_off 39 (!r26) rfl rfl rfl hb28) (dn)))))))))))))))))))))))) ?_
            refine ch_end ?_
            change OkL _ _ _ _ [(19, (Ty.agg [(tI r9.Params), (tI r9.Regs), (tL 5 Block.ty r9.Blocks)])), (20, (Ty.agg [(tL 2 Location.ty ([(⟨false, 0⟩ : Location), (⟨false, 1⟩ : Location)] : List Location)), (Ty.val (.slice none 0 0)), (tI 0)])), (21, (tB r11)), (22, (tB r11)), (23, (Ty.agg [(tI r14.Params), (tI r14.Regs), (tL 5 Block.ty r14.Blocks)])), (24, (Ty.agg [(tL 2 Location.ty ([(⟨false, 0⟩ : Location), (⟨false, 0⟩ : Location)] : List Location)), (Ty.val (.slice none 0 0)), (tI 0)])), (25, (tB r16)), (26, (tB (!r16))), (27, (tB (!r16))), (28, (tB (!r16))), (29, (Ty.agg [(tI r19.Params), (tI r19.Regs), (tL 5 Block.ty r19.Blocks)])), (30, (Ty.agg [(tL 2 Location.ty ([(⟨false, 0⟩ : Location), (⟨true, 0⟩ : Location)] : List Location)), (tL 5 Spill.ty ([(⟨1, 2, 0, 2, ([0] : List Int)⟩ : Spill)] : List Spill)), (tI 1)])), (31, (tB r21)), (32, (tB r21)), (33, (tB r21)), (34, (Ty.agg [(tI r24.Params), (tI r24.Regs), (tL 5 Block.ty r24.Blocks)])), (35, (Ty.agg [(tL 2 Location.ty ([(⟨false, 0⟩ : Location), (⟨true, 0⟩ : Location)] : List Location)), (tL 5 Spill.ty ([(⟨1, 2, 0, 2, ([0] : List Int)⟩ : Spill)] : List Spill)), (tI 1)])), (36, (tB r26)), (37, (tB (!r26))), (38, (tB (!r26))), (39, (tB (!r26))), (40, (Ty.val undef)), (41, (Ty.val undef)), (0, (tB false)), (1, (pAt g1 0)), (2, (pAt g2 0)), (3, (pAt g3 0))] (Item.blk g3 66 [(tL 2 Location.ty ([(⟨false, 0⟩ : Location), (⟨true, 0⟩ : Location)] : List Location)), (tL 5 Spill.ty ([(⟨1, 2, 0, 2, ([0] : List Int)⟩ : Spill)] : List Spill)), (tI 1)] :: Item.blk g2 66 [(tL 2 Location.ty ([(⟨false, 0⟩ : Location), (⟨false, 0⟩ : Location)] : List Location)), (Ty.val (.slice none 0 0)), (tI 0)] :: Item.blk g1 66 [(tL 2 Location.ty ([(⟨false, 0⟩ : Location), (⟨false, 1⟩ : Location)] : List Location)), (Ty.val (.slice none 0 0)), (tI 0)] :: L)
            refine okL_skip 42 39 (!r26) rfl rfl hb28 rfl rfl ?_
            refine okL_skip 43 39 (!r26) rfl rfl hb28 rfl rfl ?_
            refine okL_step 44 (tB false) rfl rfl (does_pick_f (!r26) rfl hb28 rfl) ?_
            refine okL_step 0 (tB false) rfl rfl (does_assign rfl) ?_
            refine okL_nil ?_
            exact okX_meet (I := _) false (smh h8) (cc rfl cn) rfl
        · replace h8 := cf hb23 h8
          refine okC_draw 23 [some (19, (Ty.agg [(tI r9.Params), (tI r9.Regs), (tL 5 Block.ty r9.Blocks)])), some (20, (Ty.agg [(tL 2 Location.ty ([(⟨false, 0⟩ : Location), (⟨false, 1⟩ : Location)] : List Location)), (Ty.val (.slice none 0 0)), (tI 0)])), some (21, (tB r11)), some (22, (tB r11)), some (23, (Ty.agg [(tI r14.Params), (tI r14.Regs), (tL 5 Block.ty r14.Blocks)])), some (24, (Ty.agg [(tL 2 Location.ty ([(⟨false, 0⟩ : Location), (⟨false, 0⟩ : Location)] : List Location)), (Ty.val (.slice none 0 0)), (tI 0)])), some (25, (tB r16)), some (26, (tB (!r16))), some (27, (tB (!r16))), some (28, (tB (!r16))), some (29, (Ty.agg [(tI r19.Params), (tI r19.Regs), (tL 5 Block.ty r19.Blocks)])), some (30, (Ty.agg [(tL 2 Location.ty ([(⟨false, 0⟩ : Location), (⟨true, 0⟩ : Location)] : List Location)), (tL 5 Spill.ty ([(⟨1, 2, 0, 2, ([0] : List Int)⟩ : Spill)] : List Spill)), (tI 1)])), some (31, (tB r21)), some (32, (tB r21)), some (33, (tB r21)), some (34, (Ty.val undef)), some (35, (Ty.val undef)), some (36, (Ty.val undef)), some (37, (Ty.val undef)), some (38, (tB false)), some (39, (tB false)), some (40, (Ty.val undef)), some (41, (Ty.val undef))] ⟨Item.blk g3 66 [(tL 2 Location.ty ([(⟨false, 0⟩ : Location), (⟨true, 0⟩ : Location)] : List Location)), (tL 5 Spill.ty ([(⟨1, 2, 0, 2, ([0] : List Int)⟩ : Spill)] : List Spill)), (tI 1)] :: Item.blk g2 66 [(tL 2 Location.ty ([(⟨false, 0⟩ : Location), (⟨false, 0⟩ : Location)] : List Location)), (Ty.val (.slice none 0 0)), (tI 0)] :: Item.blk g1 66 [(tL 2 Location.ty ([(⟨false, 0⟩ : Location), (⟨false, 1⟩ : Location)] : List Location)), (Ty.val (.slice none 0 0)), (tI 0)] :: ([] : List Item), Item.blk g3 66 [(tL 2 Location.ty ([(⟨false, 0⟩ : Location), (⟨true, 0⟩ : Location)] : List Location)), (tL 5 Spill.ty ([(⟨1, 2, 0, 2, ([0] : List Int)⟩ : Spill)] : List Spill)), (tI 1)] :: Item.blk g2 66 [(tL 2 Location.ty ([(⟨false, 0⟩ : Location), (⟨false, 0⟩ : Location)] : List Location)), (Ty.val (.slice none 0 0)), (tI 0)] :: Item.blk g1 66 [(tL 2 Location.ty ([(⟨false, 0⟩ : Location), (⟨false, 1⟩ : Location)] : List Location)), (Ty.val (.slice none 0 0)), (tI 0)] :: ([] : List Item), []⟩ [] mixed rfl rfl (by kernel_rfl) rfl (by kernel_rfl) rfl rfl rfl (fun _ h => List.Sublist.subset (.cons_cons _ (.cons_cons _ (.cons_cons _ (List.nil_sublist _)))) h) (fun _ h => List.Sublist.subset (.cons_cons _ (.cons_cons _ (.cons_cons _ (List.nil_sublist _)))) h) rfl (by kernel_rfl) (.inr ⟨by kernel_rfl, by kernel_rfl⟩) (by kernel_rfl) (by kernel_rfl) (dc (draw_plain rfl (does_call0 (c_law35_pair r9 hc10) rfl Tryd.call58 rfl)) (dc (draw_plain rfl (does_loadBA [(tL 2 Location.ty ([(⟨false, 0⟩ : Location), (⟨false, 1⟩ : Location)] : List Location)), (Ty.val (.slice none 0 0)), (tI 0)] Tryd.isAgg66 Tryd.sizeOf66 rfl 2 rfl rfl rfl)) (dc (draw_plain rfl (does_callS (c_alloccheck_Check K r9 (⟨([(⟨false, 0⟩ : Location), (⟨false, 1⟩ : Location)] : List Location), [], 0⟩ : Allocation) r11 hc12) rfl Tryd.call48 (.cons rfl (sub_aggs (.cons (sub_refl _) (.cons (sub_refl _) (.cons (sub_refl _) SubL.nil)))) (.cons rfl (sub_aggs (.cons (sub_refl _) (.cons (sub_nil _) (.cons (sub_refl _) SubL.nil)))) ArgSub.nil)))) (dc (draw_plain rfl (does_move rfl)) (dc (draw_on 22 r11 rfl rfl rfl hb13 (does_call0 (c_law35_pair r14 hc15) rfl Tryd.call58 rfl)) (dc (draw_on 22 r11 rfl rfl rfl hb13 (does_loadBA [(tL 2 Location.ty ([(⟨false, 0⟩ : Location), (⟨false, 0⟩ : Location)] : List Location)), (Ty.val (.slice none 0 0)), (tI 0)] Tryd.isAgg66 Tryd.sizeOf66 rfl 1 rfl rfl rfl)) (dc (draw_on 22 r11 rfl rfl rfl hb13 (does_callS (c_alloccheck_Sound K r14 (⟨([(⟨false, 0⟩ : Location), (⟨false, 0⟩ : Location)] : List Location), [], 0⟩ : Allocation) r16 hc17) rfl Tryd.call47 (.cons rfl (sub_aggs (.cons (sub_refl _) (.cons (sub_refl _) (.cons (sub_refl _) SubL.nil)))) (.cons rfl (sub_aggs (.cons (sub_refl _) (.cons (sub_nil _) (.cons (sub_refl _) SubL.nil)))) ArgSub.nil)))) (dc (draw_on 22 r11 rfl rfl rfl hb13 (does_not rfl)) (dc (draw_plain rfl (does_pick_t r11 rfl hb13 rfl)) (dc (draw_plain rfl (does_move rfl)) (dc (draw_on 28 (!r16) rfl rfl rfl hb18 (does_call0 (c_law35_pair r19 hc20) rfl Tryd.call58 rfl)) (dc (draw_on 28 (!r16) rfl rfl rfl hb18 (does_loadBA [(tL 2 Location.ty ([(⟨false, 0⟩ : Location), (⟨true, 0⟩ : Location)] : List Location)), (tL 5 Spill.ty ([(⟨1, 2, 0, 2, ([0] : List Int)⟩ : Spill)] : List Spill)), (tI 1)] Tryd.isAgg66 Tryd.sizeOf66 rfl 0 rfl rfl rfl)) (dc (draw_on 28 (!r16) rfl rfl rfl hb18 (does_call0 (c_alloccheck_Sound K r19 (⟨([(⟨false, 0⟩ : Location), (⟨true, 0⟩ : Location)] : List Location), ([(⟨1, 2, 0, 2, ([0] : List Int)⟩ : Spill)] : List Spill), 1⟩ : Allocation) r21 hc22) rfl Tryd.call47 rfl)) (dc (draw_plain rfl (does_pick_t (!r16) rfl hb18 rfl)) (dc (draw_plain rfl (does_move rfl)) (dc (draw_off 33 r21 rfl rfl rfl hb23) (dc (draw_off 33 r21 rfl rfl rfl hb23) (dc (draw_off 33 r21 rfl rfl rfl hb23) (dc (draw_off 33 r21 rfl rfl rfl hb23) (dc (draw_plain rfl (does_pick_f r21 rfl hb23 rfl)) (dc (draw_plain rfl (does_move rfl)) (dc (draw_off 39 false rfl rfl rfl rfl) (dc (draw_off 39 false rfl rfl rfl rfl) (dn)))))))))))))))))))))))) ?_
          refine ch_end ?_
          change OkL _ _ _ _ [(19, (Ty.agg [(tI r9.Params), (tI r9.Regs), (tL 5 Block.ty r9.Blocks)])), (20, (Ty.agg [(tL 2 Location.ty ([(⟨false, 0⟩ : Location), (⟨false, 1⟩ : Location)] : List Location)), (Ty.val (.slice none 0 0)), (tI 0)])), (21, (tB r11)), (22, (tB r11)), (23, (Ty.agg [(tI r14.Params), (tI r14.Regs), (tL 5 Block.ty r14.Blocks)])), (24, (Ty.agg [(tL 2 Location.ty ([(⟨false, 0⟩ : Location), (⟨false, 0⟩ : Location)] : List Location)), (Ty.val (.slice none 0 0)), (tI 0)])), (25, (tB r16)), (26, (tB (!r16))), (27, (tB (!r16))), (28, (tB (!r16))), (29, (Ty.agg [(tI r19.Params), (tI r19.Regs), (tL 5 Block.ty r19.Blocks)])), (30, (Ty.agg [(tL 2 Location.ty ([(⟨false, 0⟩ : Location), (⟨true, 0⟩ : Location)] : List Location)), (tL 5 Spill.ty ([(⟨1, 2, 0, 2, ([0] : List Int)⟩ : Spill)] : List Spill)), (tI 1)])), (31, (tB r21)), (32, (tB r21)), (33, (tB r21)), (34, (Ty.val undef)), (35, (Ty.val undef)), (36, (Ty.val undef)), (37, (Ty.val undef)), (38, (tB false)), (39, (tB false)), (40, (Ty.val undef)), (41, (Ty.val undef)), (0, (tB false)), (1, (pAt g1 0)), (2, (pAt g2 0)), (3, (pAt g3 0))] (Item.blk g3 66 [(tL 2 Location.ty ([(⟨false, 0⟩ : Location), (⟨true, 0⟩ : Location)] : List Location)), (tL 5 Spill.ty ([(⟨1, 2, 0, 2, ([0] : List Int)⟩ : Spill)] : List Spill)), (tI 1)] :: Item.blk g2 66 [(tL 2 Location.ty ([(⟨false, 0⟩ : Location), (⟨false, 0⟩ : Location)] : List Location)), (Ty.val (.slice none 0 0)), (tI 0)] :: Item.blk g1 66 [(tL 2 Location.ty ([(⟨false, 0⟩ : Location), (⟨false, 1⟩ : Location)] : List Location)), (Ty.val (.slice none 0 0)), (tI 0)] :: L)
          refine okL_skip 42 39 false rfl rfl rfl rfl rfl ?_
          refine okL_skip 43 39 false rfl rfl rfl rfl rfl ?_
          refine okL_step 44 (tB false) rfl rfl (does_pick_f false rfl rfl rfl) ?_
          refine okL_step 0 (tB false) rfl rfl (does_assign rfl) ?_
          refine okL_nil ?_
          exact okX_meet (I := _) false (smh h8) (cc rfl cn) rfl
      · replace h8 := cf hb18 h8
        refine okC_draw 23 [some (19, (Ty.agg [(tI r9.Params), (tI r9.Regs), (tL 5 Block.ty r9.Blocks)])), some (20, (Ty.agg [(tL 2 Location.ty ([(⟨false, 0⟩ : Location), (⟨false, 1⟩ : Location)] : List Location)), (Ty.val (.slice none 0 0)), (tI 0)])), some (21, (tB r11)), some (22, (tB r11)), some (23, (Ty.agg [(tI r14.Params), (tI r14.Regs), (tL 5 Block.ty r14.Blocks)])), some (24, (Ty.agg [(tL 2 Location.ty ([(⟨false, 0⟩ : Location), (⟨false, 0⟩ : Location)] : List Location)), (Ty.val (.slice none 0 0)), (tI 0)])), some (25, (tB r16)), some (26, (tB (!r16))), some (27, (tB (!r16))), some (28, (tB (!r16))), some (29, (Ty.val undef)), some (30, (Ty.val undef)), some (31, (Ty.val undef)), some (32, (tB false)), some (33, (tB false)), some (34, (Ty.val undef)), some (35, (Ty.val undef)), some (36, (Ty.val undef)), some (37, (Ty.val undef)), some (38, (tB false)), some (39, (tB false)), some (40, (Ty.val undef)), some (41, (Ty.val undef))] ⟨Item.blk g3 66 [(tL 2 Location.ty ([(⟨false, 0⟩ : Location), (⟨true, 0⟩ : Location)] : List Location)), (tL 5 Spill.ty ([(⟨1, 2, 0, 2, ([0] : List Int)⟩ : Spill)] : List Spill)), (tI 1)] :: Item.blk g2 66 [(tL 2 Location.ty ([(⟨false, 0⟩ : Location), (⟨false, 0⟩ : Location)] : List Location)), (Ty.val (.slice none 0 0)), (tI 0)] :: Item.blk g1 66 [(tL 2 Location.ty ([(⟨false, 0⟩ : Location), (⟨false, 1⟩ : Location)] : List Location)), (Ty.val (.slice none 0 0)), (tI 0)] :: ([] : List Item), Item.blk g3 66 [(tL 2 Location.ty ([(⟨false, 0⟩ : Location), (⟨true, 0⟩ : Location)] : List Location)), (tL 5 Spill.ty ([(⟨1, 2, 0, 2, ([0] : List Int)⟩ : Spill)] : List Spill)), (tI 1)] :: Item.blk g2 66 [(tL 2 Location.ty ([(⟨false, 0⟩ : Location), (⟨false, 0⟩ : Location)] : List Location)), (Ty.val (.slice none 0 0)), (tI 0)] :: Item.blk g1 66 [(tL 2 Location.ty ([(⟨false, 0⟩ : Location), (⟨false, 1⟩ : Location)] : List Location)), (Ty.val (.slice none 0 0)), (tI 0)] :: ([] : List Item), []⟩ [] mixed rfl rfl (by kernel_rfl) rfl (by kernel_rfl) rfl rfl rfl (fun _ h => List.Sublist.subset (.cons_cons _ (.cons_cons _ (.cons_cons _ (List.nil_sublist _)))) h) (fun _ h => List.Sublist.subset (.cons_cons _ (.cons_cons _ (.cons_cons _ (List.nil_sublist _)))) h) rfl (by kernel_rfl) (.inr ⟨by kernel_rfl, by kernel_rfl⟩) (by kernel_rfl) (by kernel_rfl) (dc (draw_plain rfl (does_call0 (c_law35_pair r9 hc10) rfl Tryd.call58 rfl)) (dc (draw_plain rfl (does_loadBA [(tL 2 Location.ty ([(⟨false, 0⟩ : Location), (⟨false, 1⟩ : Location)] : List Location)), (Ty.val (.slice none 0 0)), (tI 0)] Tryd.isAgg66 Tryd.sizeOf66 rfl 2 rfl rfl rfl)) (dc (draw_plain rfl (does_callS (c_alloccheck_Check K r9 (⟨([(⟨false, 0⟩ : Location), (⟨false, 1⟩ : Location)] : List Location), [], 0⟩ : Allocation) r11 hc12) rfl Tryd.call48 (.cons rfl (sub_aggs (.cons (sub_refl _) (.cons (sub_refl _) (.cons (sub_refl _) SubL.nil)))) (.cons rfl (sub_aggs (.cons (sub_refl _) (.cons (sub_nil _) (.cons (sub_refl _) SubL.nil)))) ArgSub.nil)))) (dc (draw_plain rfl (does_move rfl)) (dc (draw_on 22 r11 rfl rfl rfl hb13 (does_call0 (c_law35_pair r14 hc15) rfl Tryd.call58 rfl)) (dc (draw_on 22 r11 rfl rfl rfl hb13 (does_loadBA [(tL 2 Location.ty ([(⟨false, 0⟩ : Location), (⟨false, 0⟩ : Location)] : List Location)), (Ty.val (.slice none 0 0)), (tI 0)] Tryd.isAgg66 Tryd.sizeOf66 rfl 1 rfl rfl rfl)) (dc (draw_on 22 r11 rfl rfl rfl hb13 (does_callS (c_alloccheck_Sound K r14 (⟨([(⟨false, 0⟩ : Location), (⟨false, 0⟩ : Location)] : List Location), [], 0⟩ : Allocation) r16 hc17) rfl Tryd.call47 (.cons rfl (sub_aggs (.cons (sub_refl _) (.cons (sub_refl _) (.cons (sub_refl _) SubL.nil)))) (.cons rfl (sub_aggs (.cons (sub_refl _) (.cons (sub_nil _) (.cons (sub_refl _) SubL.nil)))) ArgSub.nil)))) (dc (draw_on 22 r11 rfl rfl rfl hb13 (does_not rfl)) (dc (draw_plain rfl (does_pick_t r11 rfl hb13 rfl)) (dc (draw_plain rfl (does_move rfl)) (dc (draw_off 28 (!r16) rfl rfl rfl hb18) (dc (draw_off 28 (!r16) rfl rfl rfl hb18) (dc (draw_off 28 (!r16) rfl rfl rfl hb18) (dc (draw_plain rfl (does_pick_f (!r16) rfl hb18 rfl)) (dc (draw_plain rfl (does_move rfl)) (dc (draw_off 33 false rfl rfl rfl rfl) (dc (draw_off 33 false rfl rfl rfl rfl) (dc (draw_off 33 false rfl rfl rfl rfl) (dc (draw_off 33 false rfl rfl rfl rfl) (dc (draw_plain rfl (does_pick_f false rfl rfl rfl)) (dc (draw_plain rfl (does_move rfl)) (dc (draw_off 39 false rfl rfl rfl rfl) (dc (draw_off 39 false rfl rfl rfl rfl) (dn)))))))))))))))))))))))) ?_
        refine ch_end ?_
        change OkL _ _ _ _ [(19, (Ty.agg [(tI r9.Params), (tI r9.Regs), (tL 5 Block.ty r9.Blocks)])), (20, (Ty.agg [(tL 2 Location.ty ([(⟨false, 0⟩ : Location), (⟨false, 1⟩ : Location)] : List Location)), (Ty.val (.slice none 0 0)), (tI 0)])), (21, (tB r11)), (22, (tB r11)), (23, (Ty.agg [(tI r14.Params), (tI r14.Regs), (tL 5 Block.ty r14.Blocks)])), (24, (Ty.agg [(tL 2 Location.ty ([(⟨false, 0⟩ : Location), (⟨false, 0⟩ : Location)] : List Location)), (Ty.val (.slice none 0 0)), (tI 0)])), (25, (tB r16)), (26, (tB (!r16))), (27, (tB (!r16))), (28, (tB (!r16))), (29, (Ty.val undef)), (30, (Ty.val undef)), (31, (Ty.val undef)), (32, (tB false)), (33, (tB false)), (34, (Ty.val undef)), (35, (Ty.val undef)), (36, (Ty.val undef)), (37, (Ty.val undef)), (38, (tB false)), (39, (tB false)), (40, (Ty.val undef)), (41, (Ty.val undef)), (0, (tB false)), (1, (pAt g1 0)), (2, (pAt g2 0)), (3, (pAt g3 0))] (Item.blk g3 66 [(tL 2 Location.ty ([(⟨false, 0⟩ : Location), (⟨true, 0⟩ : Location)] : List Location)), (tL 5 Spill.ty ([(⟨1, 2, 0, 2, ([0] : List Int)⟩ : Spill)] : List Spill)), (tI 1)] :: Item.blk g2 66 [(tL 2 Location.ty ([(⟨false, 0⟩ : Location), (⟨false, 0⟩ : Location)] : List Location)), (Ty.val (.slice none 0 0)), (tI 0)] :: Item.blk g1 66 [(tL 2 Location.ty ([(⟨false, 0⟩ : Location), (⟨false, 1⟩ : Location)] : List Location)), (Ty.val (.slice none 0 0)), (tI 0)] :: L)
        refine okL_skip 42 39 false rfl rfl rfl rfl rfl ?_
        refine okL_skip 43 39 false rfl rfl rfl rfl rfl ?_
        refine okL_step 44 (tB false) rfl rfl (does_pick_f false rfl rfl rfl) ?_
        refine okL_step 0 (tB false) rfl rfl (does_assign rfl) ?_
        refine okL_nil ?_
        exact okX_meet (I := _) false (smh h8) (cc rfl cn) rfl
    · replace h8 := cf hb13 h8
      refine okC_draw 23 [some (19, (Ty.agg [(tI r9.Params), (tI r9.Regs), (tL 5 Block.ty r9.Blocks)])), some (20, (Ty.agg [(tL 2 Location.ty ([(⟨false, 0⟩ : Location), (⟨false, 1⟩ : Location)] : List Location)), (Ty.val (.slice none 0 0)), (tI 0)])), some (21, (tB r11)), some (22, (tB r11)), some (23, (Ty.val undef)), some (24, (Ty.val undef)), some (25, (Ty.val undef)), some (26, (Ty.val undef)), some (27, (tB false)), some (28, (tB false)), some (29, (Ty.val undef)), some (30, (Ty.val undef)), some (31, (Ty.val undef)), some (32, (tB false)), some (33, (tB false)), some (34, (Ty.val undef)), some (35, (Ty.val undef)), some (36, (Ty.val undef)), some (37, (Ty.val undef)), some (38, (tB false)), some (39, (tB false)), some (40, (Ty.val undef)), some (41, (Ty.val undef))] ⟨Item.blk g3 66 [(tL 2 Location.ty ([(⟨false, 0⟩ : Location), (⟨true, 0⟩ : Location)] : List Location)), (tL 5 Spill.ty ([(⟨1, 2, 0, 2, ([0] : List Int)⟩ : Spill)] : List Spill)), (tI 1)] :: Item.blk g2 66 [(tL 2 Location.ty ([(⟨false, 0⟩ : Location), (⟨false, 0⟩ : Location)] : List Location)), (Ty.val (.slice none 0 0)), (tI 0)] :: Item.blk g1 66 [(tL 2 Location.ty ([(⟨false, 0⟩ : Location), (⟨false, 1⟩ : Location)] : List Location)), (Ty.val (.slice none 0 0)), (tI 0)] :: ([] : List Item), Item.blk g3 66 [(tL 2 Location.ty ([(⟨false, 0⟩ : Location), (⟨true, 0⟩ : Location)] : List Location)), (tL 5 Spill.ty ([(⟨1, 2, 0, 2, ([0] : List Int)⟩ : Spill)] : List Spill)), (tI 1)] :: Item.blk g2 66 [(tL 2 Location.ty ([(⟨false, 0⟩ : Location), (⟨false, 0⟩ : Location)] : List Location)), (Ty.val (.slice none 0 0)), (tI 0)] :: Item.blk g1 66 [(tL 2 Location.ty ([(⟨false, 0⟩ : Location), (⟨false, 1⟩ : Location)] : List Location)), (Ty.val (.slice none 0 0)), (tI 0)] :: ([] : List Item), []⟩ [] mixed rfl rfl (by kernel_rfl) rfl (by kernel_rfl) rfl rfl rfl (fun _ h => List.Sublist.subset (.cons_cons _ (.cons_cons _ (.cons_cons _ (List.nil_sublist _)))) h) (fun _ h => List.Sublist.subset (.cons_cons _ (.cons_cons _ (.cons_cons _ (List.nil_sublist _)))) h) rfl (by kernel_rfl) (.inr ⟨by kernel_rfl, by kernel_rfl⟩) (by kernel_rfl) (by kernel_rfl) (dc (draw_plain rfl (does_call0 (c_law35_pair r9 hc10) rfl Tryd.call58 rfl)) (dc (draw_plain rfl (does_loadBA [(tL 2 Location.ty ([(⟨false, 0⟩ : Location), (⟨false, 1⟩ : Location)] : List Location)), (Ty.val (.slice none 0 0)), (tI 0)] Tryd.isAgg66 Tryd.sizeOf66 rfl 2 rfl rfl rfl)) (dc (draw_plain rfl (does_callS (c_alloccheck_Check K r9 (⟨([(⟨false, 0⟩ : Location), (⟨false, 1⟩ : Location)] : List Location), [], 0⟩ : Allocation) r11 hc12) rfl Tryd.call48 (.cons rfl (sub_aggs (.cons (sub_refl _) (.cons (sub_refl _) (.cons (sub_refl _) SubL.nil)))) (.cons rfl (sub_aggs (.cons (sub_refl _) (.cons (sub_nil _) (.cons (sub_refl _) SubL.nil)))) ArgSub.nil)))) (dc (draw_plain rfl (does_move rfl)) (dc (draw_off 22 r11 rfl rfl rfl hb13) (dc (draw_off 22 r11 rfl rfl rfl hb13) (dc (draw_off 22 r11 rfl rfl rfl hb13) (dc (draw_off 22 r11 rfl rfl rfl hb13) (dc (draw_plain rfl (does_pick_f r11 rfl hb13 rfl)) (dc (draw_plain rfl (does_move rfl)) (dc (draw_off 28 false rfl rfl rfl rfl) (dc (draw_off 28 false rfl rfl rfl rfl) (dc (draw_off 28 false rfl rfl rfl rfl) (dc (draw_plain rfl (does_pick_f false rfl rfl rfl)) (dc (draw_plain rfl (does_move rfl)) (dc (draw_off 33 false rfl rfl rfl rfl) (dc (draw_off 33 false rfl rfl rfl rfl) (dc (draw_off 33 false rfl rfl rfl rfl) (dc (draw_off 33 false rfl rfl rfl rfl) (dc (draw_plain rfl (does_pick_f false rfl rfl rfl)) (dc (draw_plain rfl (does_move rfl)) (dc (draw_off 39 false rfl rfl rfl rfl) (dc (draw_off 39 false rfl rfl rfl rfl) (dn)))))))))))))))))))))))) ?_
      refine ch_end ?_
      change OkL _ _ _ _ [(19, (Ty.agg [(tI r9.Params), (tI r9.Regs), (tL 5 Block.ty r9.Blocks)])), (20, (Ty.agg [(tL 2 Location.ty ([(⟨false, 0⟩ : Location), (⟨false, 1⟩ : Location)] : List Location)), (Ty.val (.slice none 0 0)), (tI 0)])), (21, (tB r11)), (22, (tB r11)), (23, (Ty.val undef)), (24, (Ty.val undef)), (25, (Ty.val undef)), (26, (Ty.val undef)), (27, (tB false)), (28, (tB false)), (29, (Ty.val undef)), (30, (Ty.val undef)), (31, (Ty.val undef)), (32, (tB false)), (33, (tB false)), (34, (Ty.val undef)), (35, (Ty.val undef)), (36, (Ty.val undef)), (37, (Ty.val undef)), (38, (tB false)), (39, (tB false)), (40, (Ty.val undef)), (41, (Ty.val undef)), (0, (tB false)), (1, (pAt g1 0)), (2, (pAt g2 0)), (3, (pAt g3 0))] (Item.blk g3 66 [(tL 2 Location.ty ([(⟨false, 0⟩ : Location), (⟨true, 0⟩ : Location)] : List Location)), (tL 5 Spill.ty ([(⟨1, 2, 0, 2, ([0] : List Int)⟩ : Spill)] : List Spill)), (tI 1)] :: Item.blk g2 66 [(tL 2 Location.ty ([(⟨false, 0⟩ : Location), (⟨false, 0⟩ : Location)] : List Location)), (Ty.val (.slice none 0 0)), (tI 0)] :: Item.blk g1 66 [(tL 2 Location.ty ([(⟨false, 0⟩ : Location), (⟨false, 1⟩ : Location)] : List Location)), (Ty.val (.slice none 0 0)), (tI 0)] :: L)
      refine okL_skip 42 39 false rfl rfl rfl rfl rfl ?_
      refine okL_skip 43 39 false rfl rfl rfl rfl rfl ?_
      refine okL_step 44 (tB false) rfl rfl (does_pick_f false rfl rfl rfl) ?_
      refine okL_step 0 (tB false) rfl rfl (does_assign rfl) ?_
      refine okL_nil ?_
      exact okX_meet (I := _) false (smh h8) (cc rfl cn) rfl
  · intro s4 hx
    change OkC _ _ _ [(0, (tB s4))] (Item.blk g3 66 [(tL 2 Location.ty ([(⟨false, 0⟩ : Location), (⟨true, 0⟩ : Location)] : List Location)), (tL 5 Spill.ty ([(⟨1, 2, 0, 2, ([0] : List Int)⟩ : Spill)] : List Spill)), (tI 1)] :: Item.blk g2 66 [(tL 2 Location.ty ([(⟨false, 0⟩ : Location), (⟨false, 0⟩ : Location)] : List Location)), (Ty.val (.slice none 0 0)), (tI 0)] :: Item.blk g1 66 [(tL 2 Location.ty ([(⟨false, 0⟩ : Location), (⟨false, 1⟩ : Location)] : List Location)), (Ty.val (.slice none 0 0)), (tI 0)] :: L)
    obtain rfl : s4 = z6 := hx.symm
    replace h := hz7
    refine okC_ret ?_
    obtain rfl := (smh h).symm
    refine okX_items [Item.blk g3 66 [(tL 2 Location.ty ([(⟨false, 0⟩ : Location), (⟨true, 0⟩ : Location)] : List Location)), (tL 5 Spill.ty ([(⟨1, 2, 0, 2, ([0] : List Int)⟩ : Spill)] : List Spill)), (tI 1)], Item.blk g2 66 [(tL 2 Location.ty ([(⟨false, 0⟩ : Location), (⟨false, 0⟩ : Location)] : List Location)), (Ty.val (.slice none 0 0)), (tI 0)], Item.blk g1 66 [(tL 2 Location.ty ([(⟨false, 0⟩ : Location), (⟨false, 1⟩ : Location)] : List Location)), (Ty.val (.slice none 0 0)), (tI 0)]] (L) (pm 0 rfl (pm 0 rfl (pm 0 rfl (pr _)))) ?_
    exact okX_ret1 () Tryd.results18 rfl rfl

end Go.Proofs.YtocfnpnnbmicmaaDoor.Tc
