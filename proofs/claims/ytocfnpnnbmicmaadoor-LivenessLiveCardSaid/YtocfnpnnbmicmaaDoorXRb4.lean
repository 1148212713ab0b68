/- Written by gen.py: for each Go function a pure Lean function, and that the Go code comes to what it says. -/
import Derived.Test.YtocfnpnnbmicmaaDoorXRb3
set_option linter.unusedVariables false
set_option maxRecDepth 8000
set_option maxHeartbeats 4000000
namespace Go.Proofs.YtocfnpnnbmicmaaDoor.Tc
open Go Go.RowKit

def liveness_analyze_l1 (K : Nat) (a0 : VFunc) (l2 : (List (List Int))) : Nat → (Int × (List (List Int)) × (List (List Int))) → Option ((List (List Int)) × (List (List Int)))
  | 0, _ => none
  | k + 1, s16 => (cnd (decide (s16.1 < ((l2).length : Int))) (Option.bind (idx s16.2.2 s16.1) (fun y19 => (Option.bind (liveness_empty a0.Regs) (fun r23 => (Option.bind (liveness_empty a0.Regs) (fun r26 => (Option.bind (idx s16.2.1 s16.1) (fun y29 => (liveness_analyze_l1 K a0 l2 k ((w64 (s16.1 + 1)), (s16.2.1.set s16.1.toNat r26), (s16.2.2.set s16.1.toNat r23))))))))))) (some (s16.2.1, s16.2.2)))

def liveness_analyze_l4 (K : Nat) (s46 : (Bool × Int × (List (List Int)) × (List (List Int)))) (r57 : (List Int)) : Nat → (Int × (List (List Int)) × (List (List Int))) → Option ((List (List Int)) × (List (List Int)))
  | 0, _ => none
  | k + 1, s64 => (cnd (decide (s64.1 < ((r57).length : Int))) (Option.bind (idx r57 s64.1) (fun y67 => (Option.bind (idx s64.2.1 s46.2.1) (fun y69 => (Option.bind (idx s64.2.2 y67) (fun y73 => (Option.bind (liveness_set_union K y69 y73) (fun r77 => (liveness_analyze_l4 K s46 r57 k ((w64 (s64.1 + 1)), (s64.2.1.set s46.2.1.toNat r77.2), (s64.2.2.set y67.toNat y73))))))))))) (some (s64.2.1, s64.2.2)))

def liveness_analyze_l5 (K : Nat) (y54 : Block) : Nat → (Int × (List Int)) → Option (List Int)
  | 0, _ => none
  | k + 1, s94 => (cnd (decide (s94.1 ≥ 0)) (Option.bind (idx y54.Instrs s94.1) (fun y97 => (Option.bind (liveness_transfer K s94.2 y97) (fun r99 => (liveness_analyze_l5 K y54 k ((w64 (s94.1 - 1)), r99)))))) (some s94.2))

def liveness_analyze_l3 (K : Nat) (a0 : VFunc) : Nat → (Bool × Int × (List (List Int)) × (List (List Int))) → Option (Bool × (List (List Int)) × (List (List Int)))
  | 0, _ => none
  | k + 1, s46 => (cnd (decide (s46.2.1 ≥ 0)) (Option.bind (Option.bind (idx a0.Blocks s46.2.1) (fun y54 => (Option.bind (vcode_Successors K y54) (fun r57 => (Option.bind (liveness_analyze_l4 K s46 r57 K (0, s46.2.2.1, s46.2.2.2)) (fun s59 => (Option.bind (idx s59.1 s46.2.1) (fun y80 => (Option.bind (app 8 ([] : List Int) y80) (fun l84 => (Option.bind (liveness_addTerminator l84 y54) (fun r87 => (Option.bind (liveness_analyze_l5 K y54 K ((w64 (((y54.Instrs).length : Int) - 1)), r87)) (fun s89 => (Option.bind (idx s59.2 s46.2.1) (fun y101 => (Option.bind (liveness_set_union K y101 s89) (fun r105 => (cnd r105.1 (some (true, (s59.1.set s46.2.1.toNat y80), (s59.2.set s46.2.1.toNat r105.2))) (some (s46.1, (s59.1.set s46.2.1.toNat y80), (s59.2.set s46.2.1.toNat r105.2)))))))))))))))))))))) (fun s49 => (liveness_analyze_l3 K a0 k (s49.1, (w64 (s46.2.1 - 1)), s49.2.1, s49.2.2)))) (some (s46.1, s46.2.2.1, s46.2.2.2)))

def liveness_analyze_l2 (K : Nat) (a0 : VFunc) : Nat → (Bool × (List (List Int)) × (List (List Int))) → Option ((List (List Int)) × (List (List Int)))
  | 0, _ => none
  | k + 1, s38 => (cnd s38.1 (Option.bind (liveness_analyze_l3 K a0 K (false, (w64 (((a0.Blocks).length : Int) - 1)), s38.2.1, s38.2.2)) (fun s41 => (liveness_analyze_l2 K a0 k (s41.1, s41.2.1, s41.2.2)))) (some (s38.2.1, s38.2.2)))

def liveness_analyze (K : Nat) (a0 : VFunc) : Option ((List (List Int)) × (List (List Int))) :=
  (Option.bind (mk 24 ((a0.Blocks).length : Int) ([] : List Int)) (fun l2 => (Option.bind (mk 24 ((a0.Blocks).length : Int) ([] : List Int)) (fun l6 => (Option.bind (liveness_analyze_l1 K a0 l2 K (0, l6, l2)) (fun s11 => (Option.bind (liveness_analyze_l2 K a0 K (true, s11.1, s11.2)) (fun s33 => (some (s33.2, s33.1))))))))))

theorem c_liveness_analyze (K : Nat) (a0 : VFunc) (r : (List (List Int)) × (List (List Int))) (h : liveness_analyze K a0 = some r) : CallP Tryd.prog glob 64 [(Ty.agg [(tI a0.Params), (tI a0.Regs), (tL 5 Block.ty a0.Blocks)])] (Ty.tup [(tL 1 ls_SU r.1), (tL 1 ls_SU r.2)]) := by
  refine call_of_code Tryd.func64 rfl Tryd.ntmps64 rfl (fun L w => ?_)
  change OkC _ _ _ [(0, (Ty.agg [(tI a0.Params), (tI a0.Regs), (tL 5 Block.ty a0.Blocks)]))] (L)
  unfold liveness_analyze at h
  refine okC_seq ?_
  refine okC_region ?_
  refine okL_stepO 1 rfl rfl (doesO_box [(tI a0.Params), (tI a0.Regs), (tL 5 Block.ty a0.Blocks)] rfl (part_agg _) (fun g1 => ?_))
  refine okL_step 2 (Ty.val (.slice none 0 0)) rfl rfl (does_assign rfl) ?_
  refine okL_step 3 (Ty.val (.slice none 0 0)) rfl rfl (does_assign rfl) ?_
  refine okL_nil ?_
  refine okX_next ?_
  refine okC_seq ?_
  refine okC_region ?_
  refine okL_step 13 (pAt g1 2) rfl rfl (does_fieldAddrP 2 Tryd.underlying27 rfl Tryd.sizeOf25 rfl rfl) ?_
  refine okL_step 14 (tL 5 Block.ty a0.Blocks) rfl rfl (does_loadB1 Tryd.isAgg25 rfl 0 rfl rfl) ?_
  refine okL_step 15 (tI ((a0.Blocks).length : Int)) rfl rfl (does_len (sz := 5) (f := Block.ty) (l := a0.Blocks) rfl Tryd.underlying25 rfl) ?_
  refine okL_step 4 (tI ((a0.Blocks).length : Int)) rfl rfl (does_assign rfl) ?_
  refine okL_nil ?_
  refine okX_next ?_
  refine okC_seq ?_
  refine okC_cov [(1, (pAt g1 0)), (3, (Ty.val (.slice none 0 0))), (4, (tI ((a0.Blocks).length : Int)))] (cc rfl (cc rfl (cc rfl cn))) ?_
  obtain ⟨l2, hm3, h⟩ := bs h
  obtain ⟨l6, hm7, h⟩ := bs h
  refine okC_draw 5 [some (16, (tI ((a0.Blocks).length : Int))), none, some (18, (tI ((a0.Blocks).length : Int))), none, none] ⟨Item.blk g1 27 [(tI a0.Params), (tI a0.Regs), (tL 5 Block.ty a0.Blocks)] :: ([] : List Item), Item.blk g1 27 [(tI a0.Params), (tI a0.Regs), (tL 5 Block.ty a0.Blocks)] :: ([] : List Item), []⟩ [1, 3, 4] mixed rfl rfl (by kernel_rfl) rfl (by kernel_rfl) rfl rfl rfl (fun _ h => List.Sublist.subset (.cons_cons _ (List.nil_sublist _)) h) (fun _ h => List.Sublist.subset (.cons_cons _ (List.nil_sublist _)) h) rfl (by kernel_rfl) (.inr ⟨by kernel_rfl, by kernel_rfl⟩) (by kernel_rfl) (by kernel_rfl) (dc (draw_plain rfl (does_move rfl)) (ds (dc (draw_plain rfl (does_move rfl)) (ds (ds (dn)))))) ?_
  refine chain_meet (X := (Value × (List Value) × Value × (List Value))) (fun x : (Value × (List Value) × Value × (List Value)) => [(16, (tI ((a0.Blocks).length : Int))), (18, (tI ((a0.Blocks).length : Int))), (17, (Ty.own x.1)), (19, (Ty.own x.2.2.1)), (2, (Ty.own x.1)), (1, (pAt g1 0)), (3, (Ty.val (.slice none 0 0))), (4, (tI ((a0.Blocks).length : Int)))]) (fun x : (Value × (List Value) × Value × (List Value)) => rowL x.2.2.1 93 1 lO x.2.2.2 :: rowsL x.2.2.2 137 1 lU l6 :: rowL x.1 93 1 lO x.2.1 :: rowsL x.2.1 137 1 lU l2 :: Item.blk g1 27 [(tI a0.Params), (tI a0.Regs), (tL 5 Block.ty a0.Blocks)] :: L) ?_ ?_
  · intro x
    obtain ⟨v4, us5, v8, us9⟩ := x
    change OkL _ _ _ _ [(16, (tI ((a0.Blocks).length : Int))), (18, (tI ((a0.Blocks).length : Int))), (17, (Ty.own v4)), (19, (Ty.own v8)), (2, (Ty.own v4)), (1, (pAt g1 0)), (3, (Ty.val (.slice none 0 0))), (4, (tI ((a0.Blocks).length : Int)))] (rowL v8 93 1 lO us9 :: rowsL us9 137 1 lU l6 :: rowL v4 93 1 lO us5 :: rowsL us5 137 1 lU l2 :: Item.blk g1 27 [(tI a0.Params), (tI a0.Regs), (tL 5 Block.ty a0.Blocks)] :: L)
    refine okL_step 3 (Ty.own v8) rfl rfl (does_assign rfl) ?_
    refine okL_nil ?_
    refine okX_next ?_
    refine okC_seq ?_
    refine okC_seq ?_
    refine okC_region ?_
    refine okL_step 20 (Ty.own v4) rfl rfl (does_move rfl) ?_
    refine okL_rowsLen 3 rfl (fun hl10 => ?_)
    refine okL_step 21 (tI ((l2).length : Int)) rfl rfl (does_weak (does_lenR (f := lO) (l := us5) rfl Tryd.underlying89 2 rfl rfl) (sub_eq (congrArg (fun n : Nat => tI (n : Int)) hl10))) ?_
    refine okL_step 22 (tI 0) rfl rfl (does_move rfl) ?_
    refine okL_nil ?_
    refine okX_next ?_
    obtain ⟨z13, h15, hz14⟩ := bs h
    refine okC_meetE (X := (((List (List Int)) × (List (List Int))) × ((List Value) × (List Value)))) (fun x => z13 = x.1) (fun x : (((List (List Int)) × (List (List Int))) × ((List Value) × (List Value))) => [(1, (pAt g1 0)), (2, (Ty.own v4)), (3, (Ty.own v8)), (4, (tI ((a0.Blocks).length : Int)))]) (fun x : (((List (List Int)) × (List (List Int))) × ((List Value) × (List Value))) => rowL v8 93 1 lO x.2.1 :: rowsL x.2.1 137 1 lU x.1.1 :: rowL v4 93 1 lO x.2.2 :: rowsL x.2.2 137 1 lU x.1.2 :: Item.blk g1 27 [(tI a0.Params), (tI a0.Regs), (tL 5 Block.ty a0.Blocks)] :: L) ?_ ?_
    · refine okC_block ?_
      refine okC_loop (X := ((Int × (List (List Int)) × (List (List Int))) × ((List Value) × (List Value)))) (fun k x => liveness_analyze_l1 K a0 l2 k x.1 = some z13) (fun x : ((Int × (List (List Int)) × (List (List Int))) × ((List Value) × (List Value))) => [(1, (pAt g1 0)), (2, (Ty.own v4)), (3, (Ty.own v8)), (4, (tI ((a0.Blocks).length : Int))), (21, (tI ((l2).length : Int))), (22, (tI x.1.1))]) (fun x : ((Int × (List (List Int)) × (List (List Int))) × ((List Value) × (List Value))) => rowL v8 93 1 lO x.2.1 :: rowsL x.2.1 137 1 lU x.1.2.1 :: rowL v4 93 1 lO x.2.2 :: rowsL x.2.2 137 1 lU x.1.2.2 :: Item.blk g1 27 [(tI a0.Params), (tI a0.Regs), (tL 5 Block.ty a0.Blocks)] :: L) K ((0, l6, l2), (us9, us5)) h15 (cc rfl (cc rfl (cc rfl (cc rfl (cc rfl (cc rfl cn)))))) rfl (fun k x hI => ?_)
      obtain ⟨s16, w17⟩ := x
      change OkC _ _ _ [(1, (pAt g1 0)), (2, (Ty.own v4)), (3, (Ty.own v8)), (4, (tI ((a0.Blocks).length : Int))), (21, (tI ((l2).length : Int))), (22, (tI s16.1))] (rowL v8 93 1 lO w17.1 :: rowsL w17.1 137 1 lU s16.2.1 :: rowL v4 93 1 lO w17.2 :: rowsL w17.2 137 1 lU s16.2.2 :: Item.blk g1 27 [(tI a0.Params), (tI a0.Regs), (tL 5 Block.ty a0.Blocks)] :: L)
      cases k with
      | zero => exact (nz hI).elim
      | succ k =>
        have h : liveness_analyze_l1 K a0 l2 (k + 1) s16 = some z13 := hI
        rw [liveness_analyze_l1.eq_2] at h
        refine okC_seq ?_
        refine okC_region ?_
        refine okL_step 23 (tB (decide (s16.1 < ((l2).length : Int)))) rfl rfl (does_lss rfl rfl) ?_
        refine okL_nil ?_
        refine okX_next ?_
        refine okC_seq ?_
        refine okC_cond (b := (decide (s16.1 < ((l2).length : Int)))) rfl (fun hb18 => ?_) (fun hb18 => ?_)
        · replace h := ct hb18 h
          refine okC_skip ?_
          refine okX_next ?_
          refine okC_seq ?_
          refine okC_block ?_
          refine okC_seq ?_
          refine okC_region ?_
          refine okL_step 24 (tI s16.1) rfl rfl (does_move rfl) ?_
          refine okL_step 5 (tI s16.1) rfl rfl (does_assign rfl) ?_
          refine okL_nil ?_
          refine okX_next ?_
          refine okC_cov [(1, (pAt g1 0)), (2, (Ty.own v4)), (3, (Ty.own v8)), (4, (tI ((a0.Blocks).length : Int))), (5, (tI s16.1)), (21, (tI ((l2).length : Int))), (22, (tI s16.1))] (cc rfl (cc rfl (cc rfl (cc rfl (cc rfl (cc rfl (cc rfl cn))))))) ?_
          obtain ⟨y19, hi20, h⟩ := bs h
          refine okC_open (m := s16.1) hi20 (pm 3 rfl (pr _)) (fun u21 hu22 => ?_)
          obtain ⟨r23, hc24, h⟩ := bs h
          obtain ⟨r26, hc27, h⟩ := bs h
          refine okC_draw 12 [some (25, (Ty.own v4)), some (26, (tI s16.1)), some (27, (Ty.own v8)), some (28, (tI s16.1)), some (29, (pAt g1 1)), some (30, (tI a0.Regs)), none, some (32, (pAt g1 1)), some (33, (tI a0.Regs)), none, some (35, (Ty.rptr v4 (s16.1.toNat * 1))), none] ⟨rowL u21 137 1 lU y19 :: rowsL (w17.2.eraseIdx s16.1.toNat) 137 1 lU (s16.2.2.eraseIdx s16.1.toNat) :: rowL v8 93 1 lO w17.1 :: rowsL w17.1 137 1 lU s16.2.1 :: Item.blk g1 27 [(tI a0.Params), (tI a0.Regs), (tL 5 Block.ty a0.Blocks)] :: ([] : List Item), rowL u21 137 1 lU y19 :: rowsL (w17.2.eraseIdx s16.1.toNat) 137 1 lU (s16.2.2.eraseIdx s16.1.toNat) :: rowL v8 93 1 lO w17.1 :: rowsL w17.1 137 1 lU s16.2.1 :: rowL v4 93 1 lO w17.2 :: Item.blk g1 27 [(tI a0.Params), (tI a0.Regs), (tL 5 Block.ty a0.Blocks)] :: ([] : List Item), [11]⟩ [6, 9, 11] mixed rfl rfl (by kernel_rfl) rfl (by kernel_rfl) rfl rfl rfl (fun _ h => List.Sublist.subset (.cons_cons _ (.cons_cons _ (.cons_cons _ (.cons_cons _ (.cons _ (.cons_cons _ (List.nil_sublist _))))))) h) (fun _ h => List.Sublist.subset (.cons_cons _ (.cons_cons _ (.cons_cons _ (.cons_cons _ (.cons_cons _ (.cons_cons _ (List.nil_sublist _))))))) h) rfl (by kernel_rfl) (.inr ⟨by kernel_rfl, by kernel_rfl⟩) (by kernel_rfl) (by kernel_rfl) (dc (draw_plain rfl (does_move rfl)) (dc (draw_plain rfl (does_move rfl)) (dc (draw_plain rfl (does_move rfl)) (dc (draw_plain rfl (does_move rfl)) (dc (draw_plain rfl (does_fieldAddrP 1 Tryd.underlying27 rfl Tryd.sizeOf3 rfl rfl)) (dc (draw_plain rfl (does_loadB1 Tryd.isAgg3 rfl 4 rfl rfl)) (ds (dc (draw_plain rfl (does_fieldAddrP 1 Tryd.underlying27 rfl Tryd.sizeOf3 rfl rfl)) (dc (draw_plain rfl (does_loadB1 Tryd.isAgg3 rfl 4 rfl rfl)) (ds (de (by kernel_rfl) (draw_plain rfl (does_indexR (f := lO) (l := w17.2) (m := s16.1) el89 4 u21 hu22 rfl rfl rfl)) (ds (dn))))))))))))) ?_
          refine ch_step [6] rfl (ap_cons (ch_at _ rfl rfl (doesO_call0 (rowL u21 137 1 lU y19 :: rowsL (w17.2.eraseIdx s16.1.toNat) 137 1 lU (s16.2.2.eraseIdx s16.1.toNat) :: rowL v8 93 1 lO w17.1 :: rowsL w17.1 137 1 lU s16.2.1 :: rowL v4 93 1 lO w17.2 :: Item.blk g1 27 [(tI a0.Params), (tI a0.Regs), (tL 5 Block.ty a0.Blocks)] :: L) (c_liveness_empty a0.Regs r23 hc24) rfl Tryd.call70 rfl (pr _) (fun v25 => ?_))) (ap_nil))
          refine ⟨⟨(fun _ h => List.Sublist.subset (.cons _ (.cons_cons _ (.cons_cons _ (.cons_cons _ (.cons_cons _ (.cons _ (.cons_cons _ (List.nil_sublist _)))))))) h), .inr (fun _ h => List.Sublist.subset (.cons _ (.cons_cons _ (.cons_cons _ (.cons_cons _ (.cons_cons _ (.cons_cons _ (.cons_cons _ (List.nil_sublist _)))))))) h)⟩, ?_⟩
          refine ch_step [9] rfl (ap_cons (ch_at _ rfl rfl (doesO_call0 (rowL v25 137 1 lU r23 :: rowL u21 137 1 lU y19 :: rowsL (w17.2.eraseIdx s16.1.toNat) 137 1 lU (s16.2.2.eraseIdx s16.1.toNat) :: rowL v8 93 1 lO w17.1 :: rowsL w17.1 137 1 lU s16.2.1 :: rowL v4 93 1 lO w17.2 :: Item.blk g1 27 [(tI a0.Params), (tI a0.Regs), (tL 5 Block.ty a0.Blocks)] :: L) (c_liveness_empty a0.Regs r26 hc27) rfl Tryd.call70 rfl (pr _) (fun v28 => ?_))) (ap_nil))
          refine ⟨⟨(fun _ h => List.Sublist.subset (.cons _ (.cons _ (.cons_cons _ (.cons_cons _ (.cons_cons _ (.cons_cons _ (.cons _ (.cons_cons _ (List.nil_sublist _))))))))) h), .inr (fun _ h => List.Sublist.subset (.cons _ (.cons _ (.cons_cons _ (.cons_cons _ (.cons_cons _ (.cons_cons _ (.cons_cons _ (.cons_cons _ (List.nil_sublist _))))))))) h)⟩, ?_⟩
          refine ch_step [11] rfl (ap_cons (ch_at _ rfl rfl (doesO_storeR (f := lO) (l := w17.2) (sz := 1) (ps := [(Ty.own v25)]) (y0 := u21) (y1 := v25) (m := s16.1) 6 0 (w17.2.set s16.1.toNat v25) (rowL v28 137 1 lU r26 :: rowL v25 137 1 lU r23 :: rowL u21 137 1 lU y19 :: rowsL (w17.2.eraseIdx s16.1.toNat) 137 1 lU (s16.2.2.eraseIdx s16.1.toNat) :: rowL v8 93 1 lO w17.1 :: rowsL w17.1 137 1 lU s16.2.1 :: rowL v4 93 1 lO (w17.2.set s16.1.toNat v25) :: Item.blk g1 27 [(tI a0.Params), (tI a0.Regs), (tL 5 Block.ty a0.Blocks)] :: L) rfl rfl (part_one (one_own _)) Tryd.sizeOf93 rfl hu22 rfl rfl rfl rfl rfl ?_)) (ap_nil))
          refine ⟨⟨(fun _ h => List.Sublist.subset (.cons _ (.cons _ (.cons_cons _ (.cons_cons _ (.cons_cons _ (.cons_cons _ (.cons _ (.cons_cons _ (List.nil_sublist _))))))))) h), .inl rfl⟩, ?_⟩
          refine ch_end ?_
          change OkL _ _ _ _ [(25, (Ty.own v4)), (26, (tI s16.1)), (27, (Ty.own v8)), (28, (tI s16.1)), (29, (pAt g1 1)), (30, (tI a0.Regs)), (32, (pAt g1 1)), (33, (tI a0.Regs)), (35, (Ty.rptr v4 (s16.1.toNat * 1))), (34, (Ty.own v28)), (31, (Ty.own v25)), (1, (pAt g1 0)), (2, (Ty.own v4)), (3, (Ty.own v8)), (4, (tI ((a0.Blocks).length : Int))), (5, (tI s16.1)), (21, (tI ((l2).length : Int))), (22, (tI s16.1))] (rowL v28 137 1 lU r26 :: rowL v25 137 1 lU r23 :: rowL u21 137 1 lU y19 :: rowsL (w17.2.eraseIdx s16.1.toNat) 137 1 lU (s16.2.2.eraseIdx s16.1.toNat) :: rowL v8 93 1 lO w17.1 :: rowsL w17.1 137 1 lU s16.2.1 :: rowL v4 93 1 lO (w17.2.set s16.1.toNat v25) :: Item.blk g1 27 [(tI a0.Params), (tI a0.Regs), (tL 5 Block.ty a0.Blocks)] :: L)
          obtain ⟨y29, hi30, h⟩ := bs h
          refine okL_open (m := s16.1) hi30 (pm 5 rfl (pr _)) (fun u31 hu32 => ?_)
          refine okL_step 36 (Ty.rptr v8 (s16.1.toNat * 1)) rfl rfl (does_indexR (f := lO) (l := w17.1) (m := s16.1) el89 6 u31 hu32 rfl rfl rfl) ?_
          refine okL_stepU rfl (doesO_storeR (f := lO) (l := w17.1) (sz := 1) (ps := [(Ty.own v28)]) (y0 := u31) (y1 := v28) (m := s16.1) 6 0 (w17.1.set s16.1.toNat v28) (rowL u31 137 1 lU y29 :: rowsL (w17.1.eraseIdx s16.1.toNat) 137 1 lU (s16.2.1.eraseIdx s16.1.toNat) :: rowL v28 137 1 lU r26 :: rowL v25 137 1 lU r23 :: rowL u21 137 1 lU y19 :: rowsL (w17.2.eraseIdx s16.1.toNat) 137 1 lU (s16.2.2.eraseIdx s16.1.toNat) :: rowL v8 93 1 lO (w17.1.set s16.1.toNat v28) :: rowL v4 93 1 lO (w17.2.set s16.1.toNat v25) :: Item.blk g1 27 [(tI a0.Params), (tI a0.Regs), (tL 5 Block.ty a0.Blocks)] :: L) rfl rfl (part_one (one_own _)) Tryd.sizeOf93 rfl hu32 rfl rfl rfl rfl rfl ?_)
          refine okL_close2 (m := s16.1) hi30 hu32 (pm 2 rfl (pm 1 rfl (pr _))) ?_
          refine okL_close2 (m := s16.1) hi20 hu22 (pm 2 rfl (pm 3 rfl (pr _))) ?_
          refine okL_nil ?_
          refine okX_block_normal ?_
          refine okX_next ?_
          refine okC_region ?_
          refine okL_step 37 (tI (w64 (s16.1 + 1))) rfl rfl (does_add rfl rfl) ?_
          refine okL_step 22 (tI (w64 (s16.1 + 1))) rfl rfl (does_move rfl) ?_
          refine okL_nil ?_
          refine okX_items [rowL u31 137 1 lU y29, rowL u21 137 1 lU y19] (rowL v8 93 1 lO (w17.1.set s16.1.toNat v28) :: rowsL (w17.1.set s16.1.toNat v28) 137 1 lU (s16.2.1.set s16.1.toNat r26) :: rowL v4 93 1 lO (w17.2.set s16.1.toNat v25) :: rowsL (w17.2.set s16.1.toNat v25) 137 1 lU (s16.2.2.set s16.1.toNat r23) :: Item.blk g1 27 [(tI a0.Params), (tI a0.Regs), (tL 5 Block.ty a0.Blocks)] :: L) (pm 2 rfl (pm 2 rfl (pm 2 rfl (pm 1 rfl (pm 1 rfl (pm 0 rfl (pm 0 rfl (pr _)))))))) ?_
          exact okX_again k (Nat.lt_succ_self k) (((w64 (s16.1 + 1)), (s16.2.1.set s16.1.toNat r26), (s16.2.2.set s16.1.toNat r23)), ((w17.1.set s16.1.toNat v28), (w17.2.set s16.1.toNat v25))) h (cc rfl (cc rfl (cc rfl (cc rfl (cc rfl (cc rfl cn)))))) rfl
        · replace h := cf hb18 h
          refine okC_exit ?_
          refine okX_then_exit ?_
          refine okX_again_exit ?_
          refine okX_block_hit ?_
          exact okX_meet (I := _) ((s16.2.1, s16.2.2), (w17.1, w17.2)) (smh h) (cc rfl (cc rfl (cc rfl (cc rfl cn)))) rfl
    · intro x hx
      obtain ⟨s11, w12⟩ := x
      change OkX _ _ _ [(1, (pAt g1 0)), (2, (Ty.own v4)), (3, (Ty.own v8)), (4, (tI ((a0.Blocks).length : Int)))] (rowL v8 93 1 lO w12.1 :: rowsL w12.1 137 1 lU s11.1 :: rowL v4 93 1 lO w12.2 :: rowsL w12.2 137 1 lU s11.2 :: Item.blk g1 27 [(tI a0.Params), (tI a0.Regs), (tL 5 Block.ty a0.Blocks)] :: L)
      obtain rfl : s11 = z13 := hx.symm
      replace h := hz14
      refine okX_next ?_
      refine okC_seq ?_
      refine okC_seq ?_
      refine okC_region ?_
      refine okL_step 6 (tB true) rfl rfl (does_assign rfl) ?_
      refine okL_nil ?_
      refine okX_next ?_
      obtain ⟨z35, h37, hz36⟩ := bs h
      refine okC_meetE (X := (((List (List Int)) × (List (List Int))) × ((List Value) × (List Value)))) (fun x => z35 = x.1) (fun x : (((List (List Int)) × (List (List Int))) × ((List Value) × (List Value))) => [(2, (Ty.own v4)), (3, (Ty.own v8))]) (fun x : (((List (List Int)) × (List (List Int))) × ((List Value) × (List Value))) => rowL v8 93 1 lO x.2.1 :: rowsL x.2.1 137 1 lU x.1.1 :: rowL v4 93 1 lO x.2.2 :: rowsL x.2.2 137 1 lU x.1.2 :: Item.blk g1 27 [(tI a0.Params), (tI a0.Regs), (tL 5 Block.ty a0.Blocks)] :: L) ?_ ?_
      · refine okC_block ?_
        refine okC_loop (X := ((Bool × (List (List Int)) × (List (List Int))) × ((List Value) × (List Value)))) (fun k x => liveness_analyze_l2 K a0 k x.1 = some z35) (fun x : ((Bool × (List (List Int)) × (List (List Int))) × ((List Value) × (List Value))) => [(1, (pAt g1 0)), (2, (Ty.own v4)), (3, (Ty.own v8)), (4, (tI ((a0.Blocks).length : Int))), (6, (tB x.1.1))]) (fun x : ((Bool × (List (List Int)) × (List (List Int))) × ((List Value) × (List Value))) => rowL v8 93 1 lO x.2.1 :: rowsL x.2.1 137 1 lU x.1.2.1 :: rowL v4 93 1 lO x.2.2 :: rowsL x.2.2 137 1 lU x.1.2.2 :: Item.blk g1 27 [(tI a0.Params), (tI a0.Regs), (tL 5 Block.ty a0.Blocks)] :: L) K ((true, s11.1, s11.2), (w12.1, w12.2)) h37 (cc rfl (cc rfl (cc rfl (cc rfl (cc rfl cn))))) rfl (fun k x hI => ?_)
        obtain ⟨s38, w39⟩ := x
        change OkC _ _ _ [(1, (pAt g1 0)), (2, (Ty.own v4)), (3, (Ty.own v8)), (4, (tI ((a0.Blocks).length : Int))), (6, (tB s38.1))] (rowL v8 93 1 lO w39.1 :: rowsL w39.1 137 1 lU s38.2.1 :: rowL v4 93 1 lO w39.2 :: rowsL w39.2 137 1 lU s38.2.2 :: Item.blk g1 27 [(tI a0.Params), (tI a0.Regs), (tL 5 Block.ty a0.Blocks)] :: L)
        cases k with
        | zero => exact (nz hI).elim
        | succ k =>
          have h : liveness_analyze_l2 K a0 (k + 1) s38 = some z35 := hI
          rw [liveness_analyze_l2.eq_2] at h
          refine okC_seq ?_
          refine okC_seq ?_
          refine okC_region ?_
          refine okL_step 38 (tB s38.1) rfl rfl (does_move rfl) ?_
          refine okL_nil ?_
          refine okX_next ?_
          refine okC_cond (b := s38.1) rfl (fun hb40 => ?_) (fun hb40 => ?_)
          · replace h := ct hb40 h
            refine okC_skip ?_
            refine okX_next ?_
            refine okC_block ?_
            refine okC_seq ?_
            refine okC_region ?_
            refine okL_step 6 (tB false) rfl rfl (does_assign rfl) ?_
            refine okL_nil ?_
            refine okX_next ?_
            refine okC_seq ?_
            refine okC_region ?_
            refine okL_step 39 (tI ((a0.Blocks).length : Int)) rfl rfl (does_move rfl) ?_
            refine okL_step 40 (tI (w64 (((a0.Blocks).length : Int) - 1))) rfl rfl (does_sub rfl rfl) ?_
            refine okL_step 7 (tI (w64 (((a0.Blocks).length : Int) - 1))) rfl rfl (does_assign rfl) ?_
            refine okL_nil ?_
            refine okX_next ?_
            obtain ⟨z43, h45, hz44⟩ := bs h
            refine okC_meetE (X := (Bool × (List (List Int)) × (List (List Int)))) (fun x => z43 = x) (fun x : (Bool × (List (List Int)) × (List (List Int))) => [(1, (pAt g1 0)), (2, (Ty.own v4)), (3, (Ty.own v8)), (4, (tI ((a0.Blocks).length : Int))), (6, (tB x.1))]) (fun x : (Bool × (List (List Int)) × (List (List Int))) => rowL v8 93 1 lO w39.1 :: rowsL w39.1 137 1 lU x.2.1 :: rowL v4 93 1 lO w39.2 :: rowsL w39.2 137 1 lU x.2.2 :: Item.blk g1 27 [(tI a0.Params), (tI a0.Regs), (tL 5 Block.ty a0.Blocks)] :: L) ?_ ?_
            · refine okC_block ?_
              refine okC_loop (X := (Bool × Int × (List (List Int)) × (List (List Int)))) (fun k x => liveness_analyze_l3 K a0 k x = some z43) (fun x : (Bool × Int × (List (List Int)) × (List (List Int))) => [(1, (pAt g1 0)), (2, (Ty.own v4)), (3, (Ty.own v8)), (4, (tI ((a0.Blocks).length : Int))), (6, (tB x.1)), (7, (tI x.2.1))]) (fun x : (Bool × Int × (List (List Int)) × (List (List Int))) => rowL v8 93 1 lO w39.1 :: rowsL w39.1 137 1 lU x.2.2.1 :: rowL v4 93 1 lO w39.2 :: rowsL w39.2 137 1 lU x.2.2.2 :: Item.blk g1 27 [(tI a0.Params), (tI a0.Regs), (tL 5 Block.ty a0.Blocks)] :: L) K (false, (w64 (((a0.Blocks).length : Int) - 1)), s38.2.1, s38.2.2) h45 (cc rfl (cc rfl (cc rfl (cc rfl (cc rfl (cc rfl cn)))))) rfl (fun k s46 hI => ?_)
              change OkC _ _ _ [(1, (pAt g1 0)), (2, (Ty.own v4)), (3, (Ty.own v8)), (4, (tI ((a0.Blocks).length : Int))), (6, (tB s46.1)), (7, (tI s46.2.1))] (rowL v8 93 1 lO w39.1 :: rowsL w39.1 137 1 lU s46.2.2.1 :: rowL v4 93 1 lO w39.2 :: rowsL w39.2 137 1 lU s46.2.2.2 :: Item.blk g1 27 [(tI a0.Params), (tI a0.Regs), (tL 5 Block.ty a0.Blocks)] :: L)
              cases k with
              | zero => exact (nz hI).elim
              | succ k =>
                have h : liveness_analyze_l3 K a0 (k + 1) s46 = some z43 := hI
                rw [liveness_analyze_l3.eq_2] at h
                refine okC_seq ?_
                refine okC_seq ?_
                refine okC_region ?_
                refine okL_step 41 (tI s46.2.1) rfl rfl (does_move rfl) ?_
                refine okL_step 42 (tB (decide (s46.2.1 ≥ 0))) rfl rfl (does_geq rfl rfl) ?_
                refine okL_nil ?_
                refine okX_next ?_
                refine okC_cond (b := (decide (s46.2.1 ≥ 0))) rfl (fun hb48 => ?_) (fun hb48 => ?_)
                · replace h := ct hb48 h
                  refine okC_skip ?_
                  refine okX_next ?_
                  obtain ⟨z51, h53, hz52⟩ := bs h
                  refine okC_meet (X := (Bool × (List (List Int)) × (List (List Int)))) (fun x => z51 = x) (fun x : (Bool × (List (List Int)) × (List (List Int))) => [(1, (pAt g1 0)), (2, (Ty.own v4)), (3, (Ty.own v8)), (4, (tI ((a0.Blocks).length : Int))), (6, (tB x.1)), (7, (tI s46.2.1))]) (fun x : (Bool × (List (List Int)) × (List (List Int))) => rowL v8 93 1 lO w39.1 :: rowsL w39.1 137 1 lU x.2.1 :: rowL v4 93 1 lO w39.2 :: rowsL w39.2 137 1 lU x.2.2 :: Item.blk g1 27 [(tI a0.Params), (tI a0.Regs), (tL 5 Block.ty a0.Blocks)] :: L) ?_ ?_
                  · refine okC_block ?_
                    refine okC_seq ?_
                    refine okC_region ?_
                    refine okL_step 45 (pAt g1 2) rfl rfl (does_fieldAddrP 2 Tryd.underlying27 rfl Tryd.sizeOf25 rfl rfl) ?_
                    refine okL_step 46 (tL 5 Block.ty a0.Blocks) rfl rfl (does_loadB1 Tryd.isAgg25 rfl 4 rfl rfl) ?_
                    refine okL_step 47 (tI s46.2.1) rfl rfl (does_move rfl) ?_
                    obtain ⟨y54, hi55, h53⟩ := bs h53
                    refine okL_step 48 (Ty.ptr [(tL 6 VInstr.ty y54.Instrs), (tI y54.End), (tI y54.Reg), (tI y54.Target), (tI y54.Else)]) rfl rfl (does_index (sz := 5) (f := Block.ty) (l := a0.Blocks) (n := s46.2.1) y54 Tryd.underlying25 Tryd.sizeOf43 hi55 rfl rfl) ?_
                    refine okL_step 49 (Ty.agg [(tL 6 VInstr.ty y54.Instrs), (tI y54.End), (tI y54.Reg), (tI y54.Target), (tI y54.Else)]) rfl rfl (does_loadA [(tL 6 VInstr.ty y54.Instrs), (tI y54.End), (tI y54.Reg), (tI y54.Target), (tI y54.Else)] Tryd.isAgg43 Tryd.sizeOf43 rfl rfl rfl) ?_
                    refine okL_stepO 8 rfl rfl (doesO_alloc [(Ty.val (.slice none 0 0)), (tI 0), (tI 0), (tI 0), (tI 0)] Tryd.zeroValue43 (part_of (sub_agg [(.slice none 0 0), (.int .i64 0), (.int .i64 0), (.int .i64 0), (.int .i64 0)] rfl) (part_agg _)) (fun g56 => ?_))
                    refine okL_stepU rfl (doesO_storeB (ps := [(tL 6 VInstr.ty y54.Instrs), (tI y54.End), (tI y54.Reg), (tI y54.Target), (tI y54.Else)]) 0 [(tL 6 VInstr.ty y54.Instrs), (tI y54.End), (tI y54.Reg), (tI y54.Target), (tI y54.Else)] (Item.blk g56 43 [(tL 6 VInstr.ty y54.Instrs), (tI y54.End), (tI y54.Reg), (tI y54.Target), (tI y54.Else)] :: rowL v8 93 1 lO w39.1 :: rowsL w39.1 137 1 lU s46.2.2.1 :: rowL v4 93 1 lO w39.2 :: rowsL w39.2 137 1 lU s46.2.2.2 :: Item.blk g1 27 [(tI a0.Params), (tI a0.Regs), (tL 5 Block.ty a0.Blocks)] :: L) rfl rfl (part_agg _) Tryd.sizeOf43 rfl rfl rfl rfl ?_)
                    refine okL_nil ?_
                    refine okX_next ?_
                    refine okC_seq ?_
                    refine okC_seq ?_
                    refine okC_region ?_
                    refine okL_step 50 (Ty.agg [(tL 6 VInstr.ty y54.Instrs), (tI y54.End), (tI y54.Reg), (tI y54.Target), (tI y54.Else)]) rfl rfl (does_loadBA [(tL 6 VInstr.ty y54.Instrs), (tI y54.End), (tI y54.Reg), (tI y54.Target), (tI y54.Else)] Tryd.isAgg43 Tryd.sizeOf43 rfl 0 rfl rfl rfl) ?_
                    obtain ⟨r57, hc58, h53⟩ := bs h53
                    refine okL_step 51 (tL 1 lI r57) rfl rfl (does_call0 (c_vcode_Successors K y54 r57 hc58) rfl Tryd.call104 rfl) ?_
                    refine okL_step 52 (tI ((r57).length : Int)) rfl rfl (does_len (sz := 1) (f := lI) (l := r57) rfl Tryd.underlying31 rfl) ?_
                    refine okL_step 53 (tI 0) rfl rfl (does_move rfl) ?_
                    refine okL_nil ?_
                    refine okX_next ?_
                    obtain ⟨z61, h63, hz62⟩ := bs h53
                    refine okC_meetE (X := ((List (List Int)) × (List (List Int)))) (fun x => z61 = x) (fun x : ((List (List Int)) × (List (List Int))) => [(1, (pAt g1 0)), (2, (Ty.own v4)), (3, (Ty.own v8)), (4, (tI ((a0.Blocks).length : Int))), (6, (tB s46.1)), (7, (tI s46.2.1)), (8, (pAt g56 0))]) (fun x : ((List (List Int)) × (List (List Int))) => Item.blk g56 43 [(tL 6 VInstr.ty y54.Instrs), (tI y54.End), (tI y54.Reg), (tI y54.Target), (tI y54.Else)] :: rowL v8 93 1 lO w39.1 :: rowsL w39.1 137 1 lU x.1 :: rowL v4 93 1 lO w39.2 :: rowsL w39.2 137 1 lU x.2 :: Item.blk g1 27 [(tI a0.Params), (tI a0.Regs), (tL 5 Block.ty a0.Blocks)] :: L) ?_ ?_
                    · refine okC_block ?_
                      refine okC_loop (X := (Int × (List (List Int)) × (List (List Int)))) (fun k x => liveness_analyze_l4 K s46 r57 k x = some z61) (fun x : (Int × (List (List Int)) × (List (List Int))) => [(1, (pAt g1 0)), (2, (Ty.own v4)), (3, (Ty.own v8)), (4, (tI ((a0.Blocks).length : Int))), (6, (tB s46.1)), (7, (tI s46.2.1)), (8, (pAt g56 0)), (51, (tL 1 lI r57)), (52, (tI ((r57).length : Int))), (53, (tI x.1))]) (fun x : (Int × (List (List Int)) × (List (List Int))) => Item.blk g56 43 [(tL 6 VInstr.ty y54.Instrs), (tI y54.End), (tI y54.Reg), (tI y54.Target), (tI y54.Else)] :: rowL v8 93 1 lO w39.1 :: rowsL w39.1 137 1 lU x.2.1 :: rowL v4 93 1 lO w39.2 :: rowsL w39.2 137 1 lU x.2.2 :: Item.blk g1 27 [(tI a0.Params), (tI a0.Regs), (tL 5 Block.ty a0.Blocks)] :: L) K (0, s46.2.2.1, s46.2.2.2) h63 (cc rfl (cc rfl (cc rfl (cc rfl (cc rfl (cc rfl (cc rfl (cc rfl (cc rfl (cc rfl cn)))))))))) rfl (fun k s64 hI => ?_)
                      change OkC _ _ _ [(1, (pAt g1 0)), (2, (Ty.own v4)), (3, (Ty.own v8)), (4, (tI ((a0.Blocks).length : Int))), (6, (tB s46.1)), (7, (tI s46.2.1)), (8, (pAt g56 0)), (51, (tL 1 lI r57)), (52, (tI ((r57).length : Int))), (53, (tI s64.1))] (Item.blk g56 43 [(tL 6 VInstr.ty y54.Instrs), (tI y54.End), (tI y54.Reg), (tI y54.Target), (tI y54.Else)] :: rowL v8 93 1 lO w39.1 :: rowsL w39.1 137 1 lU s64.2.1 :: rowL v4 93 1 lO w39.2 :: rowsL w39.2 137 1 lU s64.2.2 :: Item.blk g1 27 [(tI a0.Params), (tI a0.Regs), (tL 5 Block.ty a0.Blocks)] :: L)
                      cases k with
                      | zero => exact (nz hI).elim
                      | succ k =>
                        have h : liveness_analyze_l4 K s46 r57 (k + 1) s64 = some z61 := hI
                        rw [liveness_analyze_l4.eq_2] at h
                        refine okC_seq ?_
                        refine okC_region ?_
                        refine okL_step 54 (tB (decide (s64.1 < ((r57).length : Int)))) rfl rfl (does_lss rfl rfl) ?_
                        refine okL_nil ?_
                        refine okX_next ?_
                        refine okC_seq ?_
                        refine okC_cond (b := (decide (s64.1 < ((r57).length : Int)))) rfl (fun hb66 => ?_) (fun hb66 => ?_)
                        · replace h := ct hb66 h
                          refine okC_skip ?_
                          refine okX_next ?_
                          refine okC_seq ?_
                          refine okC_block ?_
                          refine okC_seq ?_
                          refine okC_region ?_
                          obtain ⟨y67, hi68, h⟩ := bs h
                          refine okL_step 55 (Ty.ptr [(tI y67)]) rfl rfl (does_index (sz := 1) (f := lI) (l := r57) (n := s64.1) y67 Tryd.underlying31 Tryd.sizeOf3 hi68 rfl rfl) ?_
                          refine okL_step 56 (tI y67) rfl rfl (does_load1 Tryd.isAgg3 rfl) ?_
                          refine okL_step 10 (tI y67) rfl rfl (does_assign rfl) ?_
                          refine okL_nil ?_
                          refine okX_next ?_
                          refine okC_cov [(1, (pAt g1 0)), (2, (Ty.own v4)), (3, (Ty.own v8)), (4, (tI ((a0.Blocks).length : Int))), (6, (tB s46.1)), (7, (tI s46.2.1)), (8, (pAt g56 0)), (10, (tI y67)), (51, (tL 1 lI r57)), (52, (tI ((r57).length : Int))), (53, (tI s64.1))] (cc rfl (cc rfl (cc rfl (cc rfl (cc rfl (cc rfl (cc rfl (cc rfl (cc rfl (cc rfl (cc rfl cn))))))))))) ?_
                          obtain ⟨y69, hi70, h⟩ := bs h
                          refine okC_open (m := s46.2.1) hi70 (pm 2 rfl (pr _)) (fun u71 hu72 => ?_)
                          obtain ⟨y73, hi74, h⟩ := bs h
                          refine okC_open (m := y67) hi74 (pm 5 rfl (pr _)) (fun u75 hu76 => ?_)
                          refine okC_draw 8 [some (57, (Ty.own v8)), some (58, (tI s46.2.1)), some (59, (Ty.rptr v8 (s46.2.1.toNat * 1))), some (60, (Ty.own u71)), some (61, (Ty.own v4)), some (62, (tI y67)), some (63, (Ty.rptr v4 (y67.toNat * 1))), some (64, (Ty.own u75))] ⟨rowL u75 137 1 lU y73 :: rowsL (w39.2.eraseIdx y67.toNat) 137 1 lU (s64.2.2.eraseIdx y67.toNat) :: rowL u71 137 1 lU y69 :: rowsL (w39.1.eraseIdx s46.2.1.toNat) 137 1 lU (s64.2.1.eraseIdx s46.2.1.toNat) :: Item.blk g56 43 [(tL 6 VInstr.ty y54.Instrs), (tI y54.End), (tI y54.Reg), (tI y54.Target), (tI y54.Else)] :: rowL v8 93 1 lO w39.1 :: rowL v4 93 1 lO w39.2 :: Item.blk g1 27 [(tI a0.Params), (tI a0.Regs), (tL 5 Block.ty a0.Blocks)] :: ([] : List Item), rowL u75 137 1 lU y73 :: rowsL (w39.2.eraseIdx y67.toNat) 137 1 lU (s64.2.2.eraseIdx y67.toNat) :: rowL u71 137 1 lU y69 :: rowsL (w39.1.eraseIdx s46.2.1.toNat) 137 1 lU (s64.2.1.eraseIdx s46.2.1.toNat) :: Item.blk g56 43 [(tL 6 VInstr.ty y54.Instrs), (tI y54.End), (tI y54.Reg), (tI y54.Target), (tI y54.Else)] :: rowL v8 93 1 lO w39.1 :: rowL v4 93 1 lO w39.2 :: Item.blk g1 27 [(tI a0.Params), (tI a0.Regs), (tL 5 Block.ty a0.Blocks)] :: ([] : List Item), []⟩ [] mixed rfl rfl (by kernel_rfl) rfl (by kernel_rfl) rfl rfl rfl (fun _ h => List.Sublist.subset (.cons_cons _ (.cons_cons _ (.cons_cons _ (.cons_cons _ (.cons_cons _ (.cons_cons _ (.cons_cons _ (.cons_cons _ (List.nil_sublist _))))))))) h) (fun _ h => List.Sublist.subset (.cons_cons _ (.cons_cons _ (.cons_cons _ (.cons_cons _ (.cons_cons _ (.cons_cons _ (.cons_cons _ (.cons_cons _ (List.nil_sublist _))))))))) h) rfl (by kernel_rfl) (.inr ⟨by kernel_rfl, by kernel_rfl⟩) (by kernel_rfl) (by kernel_rfl) (dc (draw_plain rfl (does_move rfl)) (dc (draw_plain rfl (does_move rfl)) (dc (draw_plain rfl (does_indexR (f := lO) (l := w39.1) (m := s46.2.1) el89 5 u71 hu72 rfl rfl rfl)) (dc (draw_plain rfl (does_loadR1 5 u71 0 Tryd.isAgg93 hu72 rfl rfl rfl)) (dc (draw_plain rfl (does_move rfl)) (dc (draw_plain rfl (does_move rfl)) (dc (draw_plain rfl (does_indexR (f := lO) (l := w39.2) (m := y67) el89 6 u75 hu76 rfl rfl rfl)) (dc (draw_plain rfl (does_loadR1 6 u75 0 Tryd.isAgg93 hu76 rfl rfl rfl)) (dn))))))))) ?_
                          refine ch_end ?_
                          change OkL _ _ _ _ [(57, (Ty.own v8)), (58, (tI s46.2.1)), (59, (Ty.rptr v8 (s46.2.1.toNat * 1))), (60, (Ty.own u71)), (61, (Ty.own v4)), (62, (tI y67)), (63, (Ty.rptr v4 (y67.toNat * 1))), (64, (Ty.own u75)), (1, (pAt g1 0)), (2, (Ty.own v4)), (3, (Ty.own v8)), (4, (tI ((a0.Blocks).length : Int))), (6, (tB s46.1)), (7, (tI s46.2.1)), (8, (pAt g56 0)), (10, (tI y67)), (51, (tL 1 lI r57)), (52, (tI ((r57).length : Int))), (53, (tI s64.1))] (rowL u75 137 1 lU y73 :: rowsL (w39.2.eraseIdx y67.toNat) 137 1 lU (s64.2.2.eraseIdx y67.toNat) :: rowL u71 137 1 lU y69 :: rowsL (w39.1.eraseIdx s46.2.1.toNat) 137 1 lU (s64.2.1.eraseIdx s46.2.1.toNat) :: Item.blk g56 43 [(tL 6 VInstr.ty y54.Instrs), (tI y54.End), (tI y54.Reg), (tI y54.Target), (tI y54.Else)] :: rowL v8 93 1 lO w39.1 :: rowL v4 93 1 lO w39.2 :: Item.blk g1 27 [(tI a0.Params), (tI a0.Regs), (tL 5 Block.ty a0.Blocks)] :: L)
                          obtain ⟨r77, hc78, h⟩ := bs h
                          refine okL_stepO 65 rfl rfl (doesO_callZ (rowL u75 137 1 lU y73 :: rowsL (w39.2.eraseIdx y67.toNat) 137 1 lU (s64.2.2.eraseIdx y67.toNat) :: rowsL (w39.1.eraseIdx s46.2.1.toNat) 137 1 lU (s64.2.1.eraseIdx s46.2.1.toNat) :: Item.blk g56 43 [(tL 6 VInstr.ty y54.Instrs), (tI y54.End), (tI y54.Reg), (tI y54.Target), (tI y54.Else)] :: rowL v8 93 1 lO w39.1 :: rowL v4 93 1 lO w39.2 :: Item.blk g1 27 [(tI a0.Params), (tI a0.Regs), (tL 5 Block.ty a0.Blocks)] :: L) (c_liveness_set_union K y69 y73 u71 r77 hc78) (fun _ => (ex_val _)) (fun _ => (.cons (ex_row exU) ExIts.nil)) rfl Tryd.call73 (.cons rfl (sub_refl _) (.lend 0 rfl rfl ArgLend.nil)) (pm 2 rfl (pr _)) (fun _ => ?_))
                          refine okL_close (m := y67) hi74 hu76 (pm 1 rfl (pm 1 rfl (pr _))) ?_
                          refine okL_close (m := s46.2.1) hi70 hu72 (pm 1 rfl (pm 1 rfl (pr _))) ?_
                          refine okL_nil ?_
                          refine okX_block_normal ?_
                          refine okX_next ?_
                          refine okC_region ?_
                          refine okL_step 66 (tI (w64 (s64.1 + 1))) rfl rfl (does_add rfl rfl) ?_
                          refine okL_step 53 (tI (w64 (s64.1 + 1))) rfl rfl (does_move rfl) ?_
                          refine okL_nil ?_
                          refine okX_items [] (Item.blk g56 43 [(tL 6 VInstr.ty y54.Instrs), (tI y54.End), (tI y54.Reg), (tI y54.Target), (tI y54.Else)] :: rowL v8 93 1 lO w39.1 :: rowsL w39.1 137 1 lU (s64.2.1.set s46.2.1.toNat r77.2) :: rowL v4 93 1 lO w39.2 :: rowsL w39.2 137 1 lU (s64.2.2.set y67.toNat y73) :: Item.blk g1 27 [(tI a0.Params), (tI a0.Regs), (tL 5 Block.ty a0.Blocks)] :: L) (pm 2 rfl (pm 2 rfl (pm 0 rfl (pm 1 rfl (pm 0 rfl (pm 0 rfl (pr _))))))) ?_
                          exact okX_again k (Nat.lt_succ_self k) ((w64 (s64.1 + 1)), (s64.2.1.set s46.2.1.toNat r77.2), (s64.2.2.set y67.toNat y73)) h (cc rfl (cc rfl (cc rfl (cc rfl (cc rfl (cc rfl (cc rfl (cc rfl (cc rfl (cc rfl cn)))))))))) rfl
                        · replace h := cf hb66 h
                          refine okC_exit ?_
                          refine okX_then_exit ?_
                          refine okX_again_exit ?_
                          refine okX_block_hit ?_
                          exact okX_meet (I := _) (s64.2.1, s64.2.2) (smh h) (cc rfl (cc rfl (cc rfl (cc rfl (cc rfl (cc rfl (cc rfl cn))))))) rfl
                    · intro s59 hx
                      change OkX _ _ _ [(1, (pAt g1 0)), (2, (Ty.own v4)), (3, (Ty.own v8)), (4, (tI ((a0.Blocks).length : Int))), (6, (tB s46.1)), (7, (tI s46.2.1)), (8, (pAt g56 0))] (Item.blk g56 43 [(tL 6 VInstr.ty y54.Instrs), (tI y54.End), (tI y54.Reg), (tI y54.Target), (tI y54.Else)] :: rowL v8 93 1 lO w39.1 :: rowsL w39.1 137 1 lU s59.1 :: rowL v4 93 1 lO w39.2 :: rowsL w39.2 137 1 lU s59.2 :: Item.blk g1 27 [(tI a0.Params), (tI a0.Regs), (tL 5 Block.ty a0.Blocks)] :: L)
                      obtain rfl : s59 = z61 := hx.symm
                      replace h53 := hz62
                      refine okX_next ?_
                      refine okC_seq ?_
                      refine okC_region ?_
                      refine okL_stepO 67 rfl rfl (doesO_build0 (f := lU) el93 (fun v79 => ?_))
                      refine okL_step 68 (Ty.own v8) rfl rfl (does_move rfl) ?_
                      refine okL_step 69 (tI s46.2.1) rfl rfl (does_move rfl) ?_
                      obtain ⟨y80, hi81, h53⟩ := bs h53
                      refine okL_open (m := s46.2.1) hi81 (pm 3 rfl (pr _)) (fun u82 hu83 => ?_)
                      refine okL_step 70 (Ty.rptr v8 (s46.2.1.toNat * 1)) rfl rfl (does_indexR (f := lO) (l := w39.1) (m := s46.2.1) el89 4 u82 hu83 rfl rfl rfl) ?_
                      refine okL_step 71 (Ty.own u82) rfl rfl (does_loadR1 4 u82 0 Tryd.isAgg93 hu83 rfl rfl rfl) ?_
                      obtain ⟨l84, ha85, h53⟩ := bs h53
                      refine okL_stepO 72 rfl rfl (doesO_appendZ (f := lU) (l := ([] : List Int)) (m := y80) el93 (rowL u82 137 1 lU y80 :: rowsL (w39.1.eraseIdx s46.2.1.toNat) 137 1 lU (s59.1.eraseIdx s46.2.1.toNat) :: Item.blk g56 43 [(tL 6 VInstr.ty y54.Instrs), (tI y54.End), (tI y54.Reg), (tI y54.Target), (tI y54.Else)] :: rowL v8 93 1 lO w39.1 :: rowL v4 93 1 lO w39.2 :: rowsL w39.2 137 1 lU s59.2 :: Item.blk g1 27 [(tI a0.Params), (tI a0.Regs), (tL 5 Block.ty a0.Blocks)] :: L) 0 l84 ha85 exU rfl (pm 2 rfl (pr _)) rfl rfl (fun v86 => ?_))
                      refine okL_step 11 (Ty.own v86) rfl rfl (does_assign rfl) ?_
                      refine okL_close (m := s46.2.1) hi81 hu83 (pm 1 rfl (pm 1 rfl (pr _))) ?_
                      refine okL_nil ?_
                      refine okX_next ?_
                      refine okC_seq ?_
                      refine okC_region ?_
                      refine okL_step 73 (Ty.own v86) rfl rfl (does_move rfl) ?_
                      refine okL_step 74 (Ty.agg [(tL 6 VInstr.ty y54.Instrs), (tI y54.End), (tI y54.Reg), (tI y54.Target), (tI y54.Else)]) rfl rfl (does_loadBA [(tL 6 VInstr.ty y54.Instrs), (tI y54.End), (tI y54.Reg), (tI y54.Target), (tI y54.Else)] Tryd.isAgg43 Tryd.sizeOf43 rfl 2 rfl rfl rfl) ?_
                      obtain ⟨r87, hc88, h53⟩ := bs h53
                      refine okL_stepO 75 rfl rfl (doesO_call0 (rowsL w39.1 137 1 lU (s59.1.set s46.2.1.toNat y80) :: Item.blk g56 43 [(tL 6 VInstr.ty y54.Instrs), (tI y54.End), (tI y54.Reg), (tI y54.Target), (tI y54.Else)] :: rowL v8 93 1 lO w39.1 :: rowL v4 93 1 lO w39.2 :: rowsL w39.2 137 1 lU s59.2 :: Item.blk g1 27 [(tI a0.Params), (tI a0.Regs), (tL 5 Block.ty a0.Blocks)] :: L) (c_liveness_addTerminator l84 y54 v86 r87 hc88) rfl Tryd.call67 rfl (pm 1 rfl (pr _)) (fun _ => ?_))
                      refine okL_nil ?_
                      refine okX_next ?_
                      refine okC_seq ?_
                      refine okC_seq ?_
                      refine okC_region ?_
                      refine okL_step 76 (pAt g56 0) rfl rfl (does_fieldAddrP 0 Tryd.underlying43 rfl Tryd.sizeOf41 rfl rfl) ?_
                      refine okL_step 77 (tL 6 VInstr.ty y54.Instrs) rfl rfl (does_loadB1 Tryd.isAgg41 rfl 2 rfl rfl) ?_
                      refine okL_step 78 (tI ((y54.Instrs).length : Int)) rfl rfl (does_len (sz := 6) (f := VInstr.ty) (l := y54.Instrs) rfl Tryd.underlying41 rfl) ?_
                      refine okL_step 79 (tI (w64 (((y54.Instrs).length : Int) - 1))) rfl rfl (does_sub rfl rfl) ?_
                      refine okL_step 12 (tI (w64 (((y54.Instrs).length : Int) - 1))) rfl rfl (does_assign rfl) ?_
                      refine okL_nil ?_
                      refine okX_next ?_
                      obtain ⟨z91, h93, hz92⟩ := bs h53
                      refine okC_meetE (X := (List Int)) (fun x => z91 = x) (fun x : (List Int) => [(1, (pAt g1 0)), (2, (Ty.own v4)), (3, (Ty.own v8)), (4, (tI ((a0.Blocks).length : Int))), (6, (tB s46.1)), (7, (tI s46.2.1)), (11, (Ty.own v86))]) (fun x : (List Int) => rowL v86 137 1 lU x :: rowsL w39.1 137 1 lU (s59.1.set s46.2.1.toNat y80) :: Item.blk g56 43 [(tL 6 VInstr.ty y54.Instrs), (tI y54.End), (tI y54.Reg), (tI y54.Target), (tI y54.Else)] :: rowL v8 93 1 lO w39.1 :: rowL v4 93 1 lO w39.2 :: rowsL w39.2 137 1 lU s59.2 :: Item.blk g1 27 [(tI a0.Params), (tI a0.Regs), (tL 5 Block.ty a0.Blocks)] :: L) ?_ ?_
                      · refine okC_block ?_
                        refine okC_loop (X := (Int × (List Int))) (fun k x => liveness_analyze_l5 K y54 k x = some z91) (fun x : (Int × (List Int)) => [(1, (pAt g1 0)), (2, (Ty.own v4)), (3, (Ty.own v8)), (4, (tI ((a0.Blocks).length : Int))), (6, (tB s46.1)), (7, (tI s46.2.1)), (8, (pAt g56 0)), (11, (Ty.own v86)), (12, (tI x.1))]) (fun x : (Int × (List Int)) => rowL v86 137 1 lU x.2 :: rowsL w39.1 137 1 lU (s59.1.set s46.2.1.toNat y80) :: Item.blk g56 43 [(tL 6 VInstr.ty y54.Instrs), (tI y54.End), (tI y54.Reg), (tI y54.Target), (tI y54.Else)] :: rowL v8 93 1 lO w39.1 :: rowL v4 93 1 lO w39.2 :: rowsL w39.2 137 1 lU s59.2 :: Item.blk g1 27 [(tI a0.Params), (tI a0.Regs), (tL 5 Block.ty a0.Blocks)] :: L) K ((w64 (((y54.Instrs).length : Int) - 1)), r87) h93 (cc rfl (cc rfl (cc rfl (cc rfl (cc rfl (cc rfl (cc rfl (cc rfl (cc rfl cn))))))))) rfl (fun k s94 hI => ?_)
                        change OkC _ _ _ [(1, (pAt g1 0)), (2, (Ty.own v4)), (3, (Ty.own v8)), (4, (tI ((a0.Blocks).length : Int))), (6, (tB s46.1)), (7, (tI s46.2.1)), (8, (pAt g56 0)), (11, (Ty.own v86)), (12, (tI s94.1))] (rowL v86 137 1 lU s94.2 :: rowsL w39.1 137 1 lU (s59.1.set s46.2.1.toNat y80) :: Item.blk g56 43 [(tL 6 VInstr.ty y54.Instrs), (tI y54.End), (tI y54.Reg), (tI y54.Target), (tI y54.Else)] :: rowL v8 93 1 lO w39.1 :: rowL v4 93 1 lO w39.2 :: rowsL w39.2 137 1 lU s59.2 :: Item.blk g1 27 [(tI a0.Params), (tI a0.Regs), (tL 5 Block.ty a0.Blocks)] :: L)
                        cases k with
                        | zero => exact (nz hI).elim
                        | succ k =>
                          have h : liveness_analyze_l5 K y54 (k + 1) s94 = some z91 := hI
                          rw [liveness_analyze_l5.eq_2] at h
                          refine okC_seq ?_
                          refine okC_seq ?_
                          refine okC_region ?_
                          refine okL_step 80 (tI s94.1) rfl rfl (does_move rfl) ?_
                          refine okL_step 81 (tB (decide (s94.1 ≥ 0))) rfl rfl (does_geq rfl rfl) ?_
                          refine okL_nil ?_
                          refine okX_next ?_
                          refine okC_cond (b := (decide (s94.1 ≥ 0))) rfl (fun hb96 => ?_) (fun hb96 => ?_)
                          · replace h := ct hb96 h
                            refine okC_skip ?_
                            refine okX_next ?_
                            refine okC_seq ?_
                            refine okC_block ?_
                            refine okC_region ?_
                            refine okL_step 84 (Ty.own v86) rfl rfl (does_move rfl) ?_
                            refine okL_step 85 (pAt g56 0) rfl rfl (does_fieldAddrP 0 Tryd.underlying43 rfl Tryd.sizeOf41 rfl rfl) ?_
                            refine okL_step 86 (tL 6 VInstr.ty y54.Instrs) rfl rfl (does_loadB1 Tryd.isAgg41 rfl 2 rfl rfl) ?_
                            refine okL_step 87 (tI s94.1) rfl rfl (does_move rfl) ?_
                            obtain ⟨y97, hi98, h⟩ := bs h
                            refine okL_step 88 (Ty.ptr [(tI y97.Instr.Op), (tI y97.Instr.A), (tI y97.Instr.B), (tI y97.Instr.C), (tI y97.Instr.N), (tL 1 lI y97.Args)]) rfl rfl (does_index (sz := 6) (f := VInstr.ty) (l := y54.Instrs) (n := s94.1) y97 Tryd.underlying41 Tryd.sizeOf48 hi98 rfl rfl) ?_
                            refine okL_step 89 (Ty.agg [(tI y97.Instr.Op), (tI y97.Instr.A), (tI y97.Instr.B), (tI y97.Instr.C), (tI y97.Instr.N), (tL 1 lI y97.Args)]) rfl rfl (does_loadA [(tI y97.Instr.Op), (tI y97.Instr.A), (tI y97.Instr.B), (tI y97.Instr.C), (tI y97.Instr.N), (tL 1 lI y97.Args)] Tryd.isAgg48 Tryd.sizeOf48 rfl rfl rfl) ?_
                            obtain ⟨r99, hc100, h⟩ := bs h
                            refine okL_stepO 90 rfl rfl (doesO_call0 (rowsL w39.1 137 1 lU (s59.1.set s46.2.1.toNat y80) :: Item.blk g56 43 [(tL 6 VInstr.ty y54.Instrs), (tI y54.End), (tI y54.Reg), (tI y54.Target), (tI y54.Else)] :: rowL v8 93 1 lO w39.1 :: rowL v4 93 1 lO w39.2 :: rowsL w39.2 137 1 lU s59.2 :: Item.blk g1 27 [(tI a0.Params), (tI a0.Regs), (tL 5 Block.ty a0.Blocks)] :: L) (c_liveness_transfer K s94.2 y97 v86 r99 hc100) rfl Tryd.call68 rfl (pm 0 rfl (pr _)) (fun _ => ?_))
                            refine okL_nil ?_
                            refine okX_block_normal ?_
                            refine okX_next ?_
                            refine okC_region ?_
                            refine okL_step 82 (tI s94.1) rfl rfl (does_move rfl) ?_
                            refine okL_step 83 (tI (w64 (s94.1 - 1))) rfl rfl (does_sub rfl rfl) ?_
                            refine okL_step 12 (tI (w64 (s94.1 - 1))) rfl rfl (does_assign rfl) ?_
                            refine okL_nil ?_
                            exact okX_again k (Nat.lt_succ_self k) ((w64 (s94.1 - 1)), r99) h (cc rfl (cc rfl (cc rfl (cc rfl (cc rfl (cc rfl (cc rfl (cc rfl (cc rfl cn))))))))) rfl
                          · replace h := cf hb96 h
                            refine okC_exit ?_
                            refine okX_then_exit ?_
                            refine okX_again_exit ?_
                            refine okX_block_hit ?_
                            exact okX_meet (I := _) s94.2 (smh h) (cc rfl (cc rfl (cc rfl (cc rfl (cc rfl (cc rfl (cc rfl cn))))))) rfl
                      · intro s89 hx
                        change OkX _ _ _ [(1, (pAt g1 0)), (2, (Ty.own v4)), (3, (Ty.own v8)), (4, (tI ((a0.Blocks).length : Int))), (6, (tB s46.1)), (7, (tI s46.2.1)), (11, (Ty.own v86))] (rowL v86 137 1 lU s89 :: rowsL w39.1 137 1 lU (s59.1.set s46.2.1.toNat y80) :: Item.blk g56 43 [(tL 6 VInstr.ty y54.Instrs), (tI y54.End), (tI y54.Reg), (tI y54.Target), (tI y54.Else)] :: rowL v8 93 1 lO w39.1 :: rowL v4 93 1 lO w39.2 :: rowsL w39.2 137 1 lU s59.2 :: Item.blk g1 27 [(tI a0.Params), (tI a0.Regs), (tL 5 Block.ty a0.Blocks)] :: L)
                        obtain rfl : s89 = z91 := hx.symm
                        replace h53 := hz92
                        refine okX_next ?_
                        refine okC_seq ?_
                        refine okC_region ?_
                        refine okL_step 91 (Ty.own v4) rfl rfl (does_move rfl) ?_
                        refine okL_step 92 (tI s46.2.1) rfl rfl (does_move rfl) ?_
                        obtain ⟨y101, hi102, h53⟩ := bs h53
                        refine okL_open (m := s46.2.1) hi102 (pm 5 rfl (pr _)) (fun u103 hu104 => ?_)
                        refine okL_step 93 (Ty.rptr v4 (s46.2.1.toNat * 1)) rfl rfl (does_indexR (f := lO) (l := w39.2) (m := s46.2.1) el89 6 u103 hu104 rfl rfl rfl) ?_
                        refine okL_step 94 (Ty.own u103) rfl rfl (does_loadR1 6 u103 0 Tryd.isAgg93 hu104 rfl rfl rfl) ?_
                        refine okL_step 95 (Ty.own v86) rfl rfl (does_move rfl) ?_
                        obtain ⟨r105, hc106, h53⟩ := bs h53
                        refine okL_stepO 96 rfl rfl (doesO_callZ (rowsL (w39.2.eraseIdx s46.2.1.toNat) 137 1 lU (s59.2.eraseIdx s46.2.1.toNat) :: rowL v86 137 1 lU s89 :: rowsL w39.1 137 1 lU (s59.1.set s46.2.1.toNat y80) :: Item.blk g56 43 [(tL 6 VInstr.ty y54.Instrs), (tI y54.End), (tI y54.Reg), (tI y54.Target), (tI y54.Else)] :: rowL v8 93 1 lO w39.1 :: rowL v4 93 1 lO w39.2 :: Item.blk g1 27 [(tI a0.Params), (tI a0.Regs), (tL 5 Block.ty a0.Blocks)] :: L) (c_liveness_set_union K y101 s89 u103 r105 hc106) (fun _ => (ex_val _)) (fun _ => (.cons (ex_row exU) ExIts.nil)) rfl Tryd.call73 (.cons rfl (sub_refl _) (.lend 1 rfl rfl ArgLend.nil)) (pm 0 rfl (pr _)) (fun _ => ?_))
                        refine okL_close (m := s46.2.1) hi102 hu104 (pm 0 rfl (pm 0 rfl (pr _))) ?_
                        refine okL_nil ?_
                        refine okX_next ?_
                        refine okC_cond (b := r105.1) rfl (fun hb107 => ?_) (fun hb107 => ?_)
                        · replace h53 := ct hb107 h53
                          refine okC_region ?_
                          refine okL_step 6 (tB true) rfl rfl (does_assign rfl) ?_
                          refine okL_nil ?_
                          refine okX_block_normal ?_
                          refine okX_items [rowL v86 137 1 lU s89, Item.blk g56 43 [(tL 6 VInstr.ty y54.Instrs), (tI y54.End), (tI y54.Reg), (tI y54.Target), (tI y54.Else)]] (rowL v8 93 1 lO w39.1 :: rowsL w39.1 137 1 lU (s59.1.set s46.2.1.toNat y80) :: rowL v4 93 1 lO w39.2 :: rowsL w39.2 137 1 lU (s59.2.set s46.2.1.toNat r105.2) :: Item.blk g1 27 [(tI a0.Params), (tI a0.Regs), (tL 5 Block.ty a0.Blocks)] :: L) (pm 1 rfl (pm 2 rfl (pm 2 rfl (pm 1 rfl (pm 1 rfl (pm 0 rfl (pm 0 rfl (pr _)))))))) ?_
                          exact okX_meet (I := _) (true, (s59.1.set s46.2.1.toNat y80), (s59.2.set s46.2.1.toNat r105.2)) (smh h53) (cc rfl (cc rfl (cc rfl (cc rfl (cc rfl (cc rfl cn)))))) rfl
                        · replace h53 := cf hb107 h53
                          refine okC_skip ?_
                          refine okX_block_normal ?_
                          refine okX_items [rowL v86 137 1 lU s89, Item.blk g56 43 [(tL 6 VInstr.ty y54.Instrs), (tI y54.End), (tI y54.Reg), (tI y54.Target), (tI y54.Else)]] (rowL v8 93 1 lO w39.1 :: rowsL w39.1 137 1 lU (s59.1.set s46.2.1.toNat y80) :: rowL v4 93 1 lO w39.2 :: rowsL w39.2 137 1 lU (s59.2.set s46.2.1.toNat r105.2) :: Item.blk g1 27 [(tI a0.Params), (tI a0.Regs), (tL 5 Block.ty a0.Blocks)] :: L) (pm 1 rfl (pm 2 rfl (pm 2 rfl (pm 1 rfl (pm 1 rfl (pm 0 rfl (pm 0 rfl (pr _)))))))) ?_
                          exact okX_meet (I := _) (s46.1, (s59.1.set s46.2.1.toNat y80), (s59.2.set s46.2.1.toNat r105.2)) (smh h53) (cc rfl (cc rfl (cc rfl (cc rfl (cc rfl (cc rfl cn)))))) rfl
                  · intro s49 hx
                    change OkC _ _ _ [(1, (pAt g1 0)), (2, (Ty.own v4)), (3, (Ty.own v8)), (4, (tI ((a0.Blocks).length : Int))), (6, (tB s49.1)), (7, (tI s46.2.1))] (rowL v8 93 1 lO w39.1 :: rowsL w39.1 137 1 lU s49.2.1 :: rowL v4 93 1 lO w39.2 :: rowsL w39.2 137 1 lU s49.2.2 :: Item.blk g1 27 [(tI a0.Params), (tI a0.Regs), (tL 5 Block.ty a0.Blocks)] :: L)
                    obtain rfl : s49 = z51 := hx.symm
                    replace h := hz52
                    refine okC_region ?_
                    refine okL_step 43 (tI s46.2.1) rfl rfl (does_move rfl) ?_
                    refine okL_step 44 (tI (w64 (s46.2.1 - 1))) rfl rfl (does_sub rfl rfl) ?_
                    refine okL_step 7 (tI (w64 (s46.2.1 - 1))) rfl rfl (does_assign rfl) ?_
                    refine okL_nil ?_
                    exact okX_again k (Nat.lt_succ_self k) (s49.1, (w64 (s46.2.1 - 1)), s49.2.1, s49.2.2) h (cc rfl (cc rfl (cc rfl (cc rfl (cc rfl (cc rfl cn)))))) rfl
                · replace h := cf hb48 h
                  refine okC_exit ?_
                  refine okX_then_exit ?_
                  refine okX_again_exit ?_
                  refine okX_block_hit ?_
                  exact okX_meet (I := _) (s46.1, s46.2.2.1, s46.2.2.2) (smh h) (cc rfl (cc rfl (cc rfl (cc rfl (cc rfl cn))))) rfl
            · intro s41 hx
              change OkX _ _ _ [(1, (pAt g1 0)), (2, (Ty.own v4)), (3, (Ty.own v8)), (4, (tI ((a0.Blocks).length : Int))), (6, (tB s41.1))] (rowL v8 93 1 lO w39.1 :: rowsL w39.1 137 1 lU s41.2.1 :: rowL v4 93 1 lO w39.2 :: rowsL w39.2 137 1 lU s41.2.2 :: Item.blk g1 27 [(tI a0.Params), (tI a0.Regs), (tL 5 Block.ty a0.Blocks)] :: L)
              obtain rfl : s41 = z43 := hx.symm
              replace h := hz44
              refine okX_block_normal ?_
              exact okX_again k (Nat.lt_succ_self k) ((s41.1, s41.2.1, s41.2.2), (w39.1, w39.2)) h (cc rfl (cc rfl (cc rfl (cc rfl (cc rfl cn))))) rfl
          · replace h := cf hb40 h
            refine okC_exit ?_
            refine okX_then_exit ?_
            refine okX_again_exit ?_
            refine okX_block_hit ?_
            exact okX_meet (I := _) ((s38.2.1, s38.2.2), (w39.1, w39.2)) (smh h) (cc rfl (cc rfl cn)) rfl
      · intro x hx
        obtain ⟨s33, w34⟩ := x
        change OkX _ _ _ [(2, (Ty.own v4)), (3, (Ty.own v8))] (rowL v8 93 1 lO w34.1 :: rowsL w34.1 137 1 lU s33.1 :: rowL v4 93 1 lO w34.2 :: rowsL w34.2 137 1 lU s33.2 :: Item.blk g1 27 [(tI a0.Params), (tI a0.Regs), (tL 5 Block.ty a0.Blocks)] :: L)
        obtain rfl : s33 = z35 := hx.symm
        replace h := hz36
        refine okX_next ?_
        refine okC_seq ?_
        refine okC_region ?_
        refine okL_step 97 (Ty.own v4) rfl rfl (does_move rfl) ?_
        refine okL_step 98 (Ty.own v8) rfl rfl (does_move rfl) ?_
        refine okL_step 2 (Ty.own v4) rfl rfl (does_assign rfl) ?_
        refine okL_step 3 (Ty.own v8) rfl rfl (does_assign rfl) ?_
        refine okL_nil ?_
        refine okX_next ?_
        refine okC_ret ?_
        obtain rfl := (smh h).symm
        refine okX_publishM [2, 97] (pm 2 rfl (pm 2 rfl (pr _))) (ac rfl (ac rfl an)) ?_
        refine okX_publishM [3, 98] (pm 0 rfl (pm 0 rfl (pr _))) (ac rfl (ac rfl an)) ?_
        refine okX_items [Item.blk g1 27 [(tI a0.Params), (tI a0.Regs), (tL 5 Block.ty a0.Blocks)]] (L) (pm 0 rfl (pr _)) ?_
        exact okX_ret2 () Tryd.results64 rfl rfl rfl rfl
  · refine ch_step [1, 3] rfl (ap_cons (ch_at _ rfl rfl (doesO_makeM lU 137 1 el89 l2 hm3 rfl rfl (fun v4 us5 => ?_))) (ap_cons (ch_at _ rfl rfl (doesO_makeM lU 137 1 el89 l6 hm7 rfl rfl (fun v8 us9 => ?_))) (ap_nil)))
    · refine ⟨⟨(fun _ h => List.Sublist.subset (.cons _ (.cons _ (.cons_cons _ (List.nil_sublist _)))) h), .inr (fun _ h => List.Sublist.subset (.cons _ (.cons _ (.cons_cons _ (List.nil_sublist _)))) h)⟩, ?_⟩
      refine ch_step [3, 4] rfl (ap_cons (ch_at _ rfl rfl (doesO_makeM lU 137 1 el89 l6 hm7 rfl rfl (fun v8 us9 => ?_))) (ap_cons (ch_at _ rfl rfl (doesO_of (does_assign rfl) ?_)) (ap_nil)))
      · refine ⟨⟨(fun _ h => List.Sublist.subset (.cons _ (.cons _ (.cons _ (.cons _ (.cons_cons _ (List.nil_sublist _)))))) h), .inr (fun _ h => List.Sublist.subset (.cons _ (.cons _ (.cons _ (.cons _ (.cons_cons _ (List.nil_sublist _)))))) h)⟩, ?_⟩
        refine ch_step [4] rfl (ap_cons (ch_at _ rfl rfl (doesO_of (does_assign rfl) ?_)) (ap_nil))
        refine ⟨⟨(fun _ h => List.Sublist.subset (.cons _ (.cons _ (.cons _ (.cons _ (.cons_cons _ (List.nil_sublist _)))))) h), .inr (fun _ h => List.Sublist.subset (.cons _ (.cons _ (.cons _ (.cons _ (.cons_cons _ (List.nil_sublist _)))))) h)⟩, ?_⟩
        exact ch_end ⟨(v4, us5, v8, us9), (cc rfl (cc rfl (cc rfl (cc rfl (cc rfl (cc rfl (cc rfl (cc rfl cn)))))))), (pm 0 rfl (pm 0 rfl (pm 0 rfl (pm 0 rfl (pm 0 rfl (pr _))))))⟩
      · refine ⟨⟨(fun _ h => List.Sublist.subset (.cons _ (.cons _ (.cons_cons _ (List.nil_sublist _)))) h), .inr (fun _ h => List.Sublist.subset (.cons _ (.cons _ (.cons_cons _ (List.nil_sublist _)))) h)⟩, ?_⟩
        refine ch_step [3] rfl (ap_cons (ch_at _ rfl rfl (doesO_makeM lU 137 1 el89 l6 hm7 rfl rfl (fun v8 us9 => ?_))) (ap_nil))
        refine ⟨⟨(fun _ h => List.Sublist.subset (.cons _ (.cons _ (.cons _ (.cons _ (.cons_cons _ (List.nil_sublist _)))))) h), .inr (fun _ h => List.Sublist.subset (.cons _ (.cons _ (.cons _ (.cons _ (.cons_cons _ (List.nil_sublist _)))))) h)⟩, ?_⟩
        exact ch_end ⟨(v4, us5, v8, us9), (cc rfl (cc rfl (cc rfl (cc rfl (cc rfl (cc rfl (cc rfl (cc rfl cn)))))))), (pm 0 rfl (pm 0 rfl (pm 0 rfl (pm 0 rfl (pm 0 rfl (pr _))))))⟩
    · refine ⟨⟨(fun _ h => List.Sublist.subset (.cons _ (.cons _ (.cons_cons _ (List.nil_sublist _)))) h), .inr (fun _ h => List.Sublist.subset (.cons _ (.cons _ (.cons_cons _ (List.nil_sublist _)))) h)⟩, ?_⟩
      refine ch_step [1] rfl (ap_cons (ch_at _ rfl rfl (doesO_makeM lU 137 1 el89 l2 hm3 rfl rfl (fun v4 us5 => ?_))) (ap_nil))
      refine ⟨⟨(fun _ h => List.Sublist.subset (.cons _ (.cons _ (.cons _ (.cons _ (.cons_cons _ (List.nil_sublist _)))))) h), .inr (fun _ h => List.Sublist.subset (.cons _ (.cons _ (.cons _ (.cons _ (.cons_cons _ (List.nil_sublist _)))))) h)⟩, ?_⟩
      refine ch_step [4] rfl (ap_cons (ch_at _ rfl rfl (doesO_of (does_assign rfl) ?_)) (ap_nil))
      refine ⟨⟨(fun _ h => List.Sublist.subset (.cons _ (.cons _ (.cons _ (.cons _ (.cons_cons _ (List.nil_sublist _)))))) h), .inr (fun _ h => List.Sublist.subset (.cons _ (.cons _ (.cons _ (.cons _ (.cons_cons _ (List.nil_sublist _)))))) h)⟩, ?_⟩
      exact ch_end ⟨(v4, us5, v8, us9), (cc rfl (cc rfl (cc rfl (cc rfl (cc rfl (cc rfl (cc rfl (cc rfl cn)))))))), (pm 2 rfl (pm 2 rfl (pm 0 rfl (pm 0 rfl (pm 0 rfl (pr _))))))⟩

def liveness_Blocks_l1 (K : Nat) (r5 : (List (List Int)) × (List (List Int))) : Nat → (Int × (List (List Int)) × (List (List Int))) → Option ((List (List Int)) × (List (List Int)))
  | 0, _ => none
  | k + 1, s12 => (cnd (decide (s12.1 < ((r5.1).length : Int))) (Option.bind (idx r5.1 s12.1) (fun y15 => (Option.bind (liveness_set_list K y15) (fun r17 => (Option.bind (app 24 s12.2.2 ([r17] : List (List Int))) (fun l19 => (Option.bind (idx r5.2 s12.1) (fun y22 => (Option.bind (liveness_set_list K y22) (fun r24 => (Option.bind (app 24 s12.2.1 ([r24] : List (List Int))) (fun l26 => (liveness_Blocks_l1 K r5 k ((w64 (s12.1 + 1)), l26, l19)))))))))))))) (some (s12.2.1, s12.2.2)))

def liveness_Blocks (K : Nat) (a0 : VFunc) : Option ((List (List Int)) × (List (List Int))) :=
  (Option.bind (vcode_Valid K a0) (fun r2 => (cnd (!r2) (some (([] : List (List Int)), ([] : List (List Int)))) (Option.bind (liveness_analyze K a0) (fun r5 => (Option.bind (liveness_Blocks_l1 K r5 K (0, ([] : List (List Int)), ([] : List (List Int)))) (fun s7 => (some (s7.2, s7.1)))))))))

theorem c_liveness_Blocks (K : Nat) (a0 : VFunc) (r : (List (List Int)) × (List (List Int))) (h : liveness_Blocks K a0 = some r) : CallP Tryd.prog glob 22 [(Ty.agg [(tI a0.Params), (tI a0.Regs), (tL 5 Block.ty a0.Blocks)])] (Ty.tup [(tL 1 lIs r.1), (tL 1 lIs r.2)]) := by
  refine call_of_code Tryd.func22 rfl Tryd.ntmps22 rfl (fun L w => ?_)
  change OkC _ _ _ [(0, (Ty.agg [(tI a0.Params), (tI a0.Regs), (tL 5 Block.ty a0.Blocks)]))] (L)
  unfold liveness_Blocks at h
  refine okC_seq ?_
  refine okC_region ?_
  refine okL_stepO 1 rfl rfl (doesO_box [(tI a0.Params), (tI a0.Regs), (tL 5 Block.ty a0.Blocks)] rfl (part_agg _) (fun g1 => ?_))
  refine okL_step 2 (Ty.val (.slice none 0 0)) rfl rfl (does_assign rfl) ?_
  refine okL_step 3 (Ty.val (.slice none 0 0)) rfl rfl (does_assign rfl) ?_
  refine okL_nil ?_
  refine okX_next ?_
  refine okC_seq ?_
  refine okC_seq ?_
  refine okC_region ?_
  refine okL_step 9 (Ty.agg [(tI a0.Params), (tI a0.Regs), (tL 5 Block.ty a0.Blocks)]) rfl rfl (does_loadBA [(tI a0.Params), (tI a0.Regs), (tL 5 Block.ty a0.Blocks)] Tryd.isAgg27 Tryd.sizeOf27 rfl 0 rfl rfl rfl) ?_
  obtain ⟨r2, hc3, h⟩ := bs h
  refine okL_step 10 (tB r2) rfl rfl (does_call0 (c_vcode_Valid K a0 r2 hc3) rfl Tryd.call63 rfl) ?_
  refine okL_step 11 (tB (!r2)) rfl rfl (does_not rfl) ?_
  refine okL_nil ?_
  refine okX_next ?_
  refine okC_cond (b := (!r2)) rfl (fun hb4 => ?_) (fun hb4 => ?_)
  · replace h := ct hb4 h
    refine okC_seq ?_
    refine okC_region ?_
    refine okL_step 2 (Ty.val (.slice none 0 0)) rfl rfl (does_assign rfl) ?_
    refine okL_step 3 (Ty.val (.slice none 0 0)) rfl rfl (does_assign rfl) ?_
    refine okL_nil ?_
    refine okX_next ?_
    refine okC_ret ?_
    refine okX_then_ret ?_
    obtain rfl := (smh h).symm
    refine okX_sub 2 (tL 1 lIs ([] : List (List Int))) rfl (sub_nil _) ?_
    refine okX_sub 3 (tL 1 lIs ([] : List (List Int))) rfl (sub_nil _) ?_
    refine okX_items [Item.blk g1 27 [(tI a0.Params), (tI a0.Regs), (tL 5 Block.ty a0.Blocks)]] (L) (pm 0 rfl (pr _)) ?_
    exact okX_ret2 () Tryd.results22 rfl rfl rfl rfl
  · replace h := cf hb4 h
    refine okC_skip ?_
    refine okX_next ?_
    refine okC_seq ?_
    refine okC_region ?_
    refine okL_step 13 (Ty.agg [(tI a0.Params), (tI a0.Regs), (tL 5 Block.ty a0.Blocks)]) rfl rfl (does_loadBA [(tI a0.Params), (tI a0.Regs), (tL 5 Block.ty a0.Blocks)] Tryd.isAgg27 Tryd.sizeOf27 rfl 0 rfl rfl rfl) ?_
    obtain ⟨r5, hc6, h⟩ := bs h
    refine okL_step 14 (Ty.tup [(tL 1 ls_SU r5.1), (tL 1 ls_SU r5.2)]) rfl rfl (does_call0 (c_liveness_analyze K a0 r5 hc6) rfl Tryd.call64 rfl) ?_
    refine okL_step 12 (Ty.tup [(tL 1 ls_SU r5.1), (tL 1 ls_SU r5.2)]) rfl rfl (does_move rfl) ?_
    refine okL_step 15 (tL 1 ls_SU r5.1) rfl rfl (does_extract rfl rfl) ?_
    refine okL_step 16 (tL 1 ls_SU r5.2) rfl rfl (does_extract rfl rfl) ?_
    refine okL_step 4 (tL 1 ls_SU r5.1) rfl rfl (does_assign rfl) ?_
    refine okL_step 5 (tL 1 ls_SU r5.2) rfl rfl (does_assign rfl) ?_
    refine okL_nil ?_
    refine okX_next ?_
    refine okC_seq ?_
    refine okC_region ?_
    refine okL_step 6 (Ty.val (.slice none 0 0)) rfl rfl (does_assign rfl) ?_
    refine okL_step 7 (Ty.val (.slice none 0 0)) rfl rfl (does_assign rfl) ?_
    refine okL_nil ?_
    refine okX_next ?_
    refine okC_seq ?_
    refine okC_seq ?_
    refine okC_region ?_
    refine okL_step 17 (tL 1 ls_SU r5.1) rfl rfl (does_move rfl) ?_
    refine okL_step 18 (tI ((r5.1).length : Int)) rfl rfl (does_len (sz := 1) (f := ls_SU) (l := r5.1) rfl Tryd.underlying89 rfl) ?_
    refine okL_step 19 (tI 0) rfl rfl (does_move rfl) ?_
    refine okL_nil ?_
    refine okX_next ?_
    refine okC_nilrow (sz := 1) lIs 31 6 rfl ?_
    refine okC_nilrow (sz := 1) lIs 31 7 rfl ?_
    obtain ⟨z9, h11, hz10⟩ := bs h
    refine okC_meetE (X := (((List (List Int)) × (List (List Int))) × (Value × Value))) (fun x => z9 = x.1) (fun x : (((List (List Int)) × (List (List Int))) × (Value × Value)) => [(6, (Ty.own x.2.2)), (7, (Ty.own x.2.1))]) (fun x : (((List (List Int)) × (List (List Int))) × (Value × Value)) => rowL x.2.1 31 1 lIs x.1.1 :: rowL x.2.2 31 1 lIs x.1.2 :: Item.blk g1 27 [(tI a0.Params), (tI a0.Regs), (tL 5 Block.ty a0.Blocks)] :: L) ?_ ?_
    · refine okC_block ?_
      refine okC_loop (X := ((Int × (List (List Int)) × (List (List Int))) × (Value × Value))) (fun k x => liveness_Blocks_l1 K r5 k x.1 = some z9) (fun x : ((Int × (List (List Int)) × (List (List Int))) × (Value × Value)) => [(4, (tL 1 ls_SU r5.1)), (5, (tL 1 ls_SU r5.2)), (6, (Ty.own x.2.2)), (7, (Ty.own x.2.1)), (18, (tI ((r5.1).length : Int))), (19, (tI x.1.1))]) (fun x : ((Int × (List (List Int)) × (List (List Int))) × (Value × Value)) => rowL x.2.1 31 1 lIs x.1.2.1 :: rowL x.2.2 31 1 lIs x.1.2.2 :: Item.blk g1 27 [(tI a0.Params), (tI a0.Regs), (tL 5 Block.ty a0.Blocks)] :: L) K ((0, ([] : List (List Int)), ([] : List (List Int))), ((.slice none 0 0), (.slice none 0 0))) h11 (cc rfl (cc rfl (cc rfl (cc rfl (cc rfl (cc rfl cn)))))) rfl (fun k x hI => ?_)
      obtain ⟨s12, w13⟩ := x
      change OkC _ _ _ [(4, (tL 1 ls_SU r5.1)), (5, (tL 1 ls_SU r5.2)), (6, (Ty.own w13.2)), (7, (Ty.own w13.1)), (18, (tI ((r5.1).length : Int))), (19, (tI s12.1))] (rowL w13.1 31 1 lIs s12.2.1 :: rowL w13.2 31 1 lIs s12.2.2 :: Item.blk g1 27 [(tI a0.Params), (tI a0.Regs), (tL 5 Block.ty a0.Blocks)] :: L)
      cases k with
      | zero => exact (nz hI).elim
      | succ k =>
        have h : liveness_Blocks_l1 K r5 (k + 1) s12 = some z9 := hI
        rw [liveness_Blocks_l1.eq_2] at h
        refine okC_seq ?_
        refine okC_region ?_
        refine okL_step 20 (tB (decide (s12.1 < ((r5.1).length : Int)))) rfl rfl (does_lss rfl rfl) ?_
        refine okL_nil ?_
        refine okX_next ?_
        refine okC_seq ?_
        refine okC_cond (b := (decide (s12.1 < ((r5.1).length : Int)))) rfl (fun hb14 => ?_) (fun hb14 => ?_)
        · replace h := ct hb14 h
          refine okC_skip ?_
          refine okX_next ?_
          refine okC_seq ?_
          refine okC_block ?_
          refine okC_seq ?_
          refine okC_region ?_
          refine okL_step 21 (tI s12.1) rfl rfl (does_move rfl) ?_
          refine okL_step 8 (tI s12.1) rfl rfl (does_assign rfl) ?_
          refine okL_nil ?_
          refine okX_next ?_
          refine okC_cov [(4, (tL 1 ls_SU r5.1)), (5, (tL 1 ls_SU r5.2)), (6, (Ty.own w13.2)), (7, (Ty.own w13.1)), (8, (tI s12.1)), (18, (tI ((r5.1).length : Int))), (19, (tI s12.1))] (cc rfl (cc rfl (cc rfl (cc rfl (cc rfl (cc rfl (cc rfl cn))))))) ?_
          obtain ⟨y15, hi16, h⟩ := bs h
          obtain ⟨r17, hc18, h⟩ := bs h
          obtain ⟨l19, ha20, h⟩ := bs h
          obtain ⟨y22, hi23, h⟩ := bs h
          obtain ⟨r24, hc25, h⟩ := bs h
          refine okC_draw 15 [some (22, (Ty.own w13.2)), some (23, (tL 1 ls_SU r5.1)), some (24, (tI s12.1)), some (25, (Ty.ptr [(tL 1 lU y15)])), some (26, (tL 1 lU y15)), some (27, (tL 1 lI r17)), some (28, (tL 1 lIs ([r17] : List (List Int)))), none, some (30, (Ty.own w13.1)), some (31, (tL 1 ls_SU r5.2)), some (32, (tI s12.1)), some (33, (Ty.ptr [(tL 1 lU y22)])), some (34, (tL 1 lU y22)), some (35, (tL 1 lI r24)), some (36, (tL 1 lIs ([r24] : List (List Int))))] ⟨rowL w13.1 31 1 lIs s12.2.1 :: Item.blk g1 27 [(tI a0.Params), (tI a0.Regs), (tL 5 Block.ty a0.Blocks)] :: ([] : List Item), rowL w13.1 31 1 lIs s12.2.1 :: rowL w13.2 31 1 lIs s12.2.2 :: Item.blk g1 27 [(tI a0.Params), (tI a0.Regs), (tL 5 Block.ty a0.Blocks)] :: ([] : List Item), [7]⟩ [7] mixed rfl rfl (by kernel_rfl) rfl (by kernel_rfl) rfl rfl rfl (fun _ h => List.Sublist.subset (.cons_cons _ (.cons _ (.cons_cons _ (List.nil_sublist _)))) h) (fun _ h => List.Sublist.subset (.cons_cons _ (.cons_cons _ (.cons_cons _ (List.nil_sublist _)))) h) rfl (by kernel_rfl) (.inr ⟨by kernel_rfl, by kernel_rfl⟩) (by kernel_rfl) (by kernel_rfl) (dc (draw_plain rfl (does_move rfl)) (dc (draw_plain rfl (does_move rfl)) (dc (draw_plain rfl (does_move rfl)) (dc (draw_plain rfl (does_index (sz := 1) (f := ls_SU) (l := r5.1) (n := s12.1) y15 Tryd.underlying89 Tryd.sizeOf93 hi16 rfl rfl)) (dc (draw_plain rfl (does_load1 Tryd.isAgg93 rfl)) (dc (draw_plain rfl (does_call0 (d_liveness_set_list K y15 r17 hc18) rfl Tryd.call65 rfl)) (dc (draw_plain rfl (does_buildSlice (f := lIs) ([r17] : List (List Int)) [(tL 1 lI r17)] el22 rfl rfl rfl (fc [(tL 1 lI r17)] 0 rfl (part_one (one_slice _ _)) rfl rfl (fn_ rfl)) rfl (fun _ => rfl))) (ds (dc (draw_plain rfl (does_move rfl)) (dc (draw_plain rfl (does_move rfl)) (dc (draw_plain rfl (does_move rfl)) (dc (draw_plain rfl (does_index (sz := 1) (f := ls_SU) (l := r5.2) (n := s12.1) y22 Tryd.underlying89 Tryd.sizeOf93 hi23 rfl rfl)) (dc (draw_plain rfl (does_load1 Tryd.isAgg93 rfl)) (dc (draw_plain rfl (does_call0 (d_liveness_set_list K y22 r24 hc25) rfl Tryd.call65 rfl)) (dc (draw_plain rfl (does_buildSlice (f := lIs) ([r24] : List (List Int)) [(tL 1 lI r24)] el22 rfl rfl rfl (fc [(tL 1 lI r24)] 0 rfl (part_one (one_slice _ _)) rfl rfl (fn_ rfl)) rfl (fun _ => rfl))) (dn)))))))))))))))) ?_
          refine ch_step [7] rfl (ap_cons (ch_at _ rfl rfl (doesO_append (f := lIs) (l := s12.2.2) (m := ([r17] : List (List Int))) el22 1 l19 (fun v21 => rowL w13.1 31 1 lIs s12.2.1 :: rowL v21 31 1 lIs l19 :: Item.blk g1 27 [(tI a0.Params), (tI a0.Regs), (tL 5 Block.ty a0.Blocks)] :: L) ha20 rfl rfl rfl (fun _ => rfl) (fun v21 => ?_))) (ap_nil))
          refine ⟨⟨(fun _ h => List.Sublist.subset (.cons_cons _ (.cons _ (.cons_cons _ (List.nil_sublist _)))) h), .inl rfl⟩, ?_⟩
          refine ch_end ?_
          change OkL _ _ _ _ [(22, (Ty.own w13.2)), (23, (tL 1 ls_SU r5.1)), (24, (tI s12.1)), (25, (Ty.ptr [(tL 1 lU y15)])), (26, (tL 1 lU y15)), (27, (tL 1 lI r17)), (28, (tL 1 lIs ([r17] : List (List Int)))), (30, (Ty.own w13.1)), (31, (tL 1 ls_SU r5.2)), (32, (tI s12.1)), (33, (Ty.ptr [(tL 1 lU y22)])), (34, (tL 1 lU y22)), (35, (tL 1 lI r24)), (36, (tL 1 lIs ([r24] : List (List Int)))), (29, (Ty.own v21)), (4, (tL 1 ls_SU r5.1)), (5, (tL 1 ls_SU r5.2)), (6, (Ty.own w13.2)), (7, (Ty.own w13.1)), (8, (tI s12.1)), (18, (tI ((r5.1).length : Int))), (19, (tI s12.1))] (rowL w13.1 31 1 lIs s12.2.1 :: rowL v21 31 1 lIs l19 :: Item.blk g1 27 [(tI a0.Params), (tI a0.Regs), (tL 5 Block.ty a0.Blocks)] :: L)
          obtain ⟨l26, ha27, h⟩ := bs h
          refine okL_stepO 37 rfl rfl (doesO_append (f := lIs) (l := s12.2.1) (m := ([r24] : List (List Int))) el22 0 l26 (fun v28 => rowL v28 31 1 lIs l26 :: rowL v21 31 1 lIs l19 :: Item.blk g1 27 [(tI a0.Params), (tI a0.Regs), (tL 5 Block.ty a0.Blocks)] :: L) ha27 rfl rfl rfl (fun _ => rfl) (fun v28 => ?_))
          refine okL_step 6 (Ty.own v21) rfl rfl (does_assign rfl) ?_
          refine okL_step 7 (Ty.own v28) rfl rfl (does_assign rfl) ?_
          refine okL_nil ?_
          refine okX_block_normal ?_
          refine okX_next ?_
          refine okC_region ?_
          refine okL_step 38 (tI (w64 (s12.1 + 1))) rfl rfl (does_add rfl rfl) ?_
          refine okL_step 19 (tI (w64 (s12.1 + 1))) rfl rfl (does_move rfl) ?_
          refine okL_nil ?_
          exact okX_again k (Nat.lt_succ_self k) (((w64 (s12.1 + 1)), l26, l19), (v28, v21)) h (cc rfl (cc rfl (cc rfl (cc rfl (cc rfl (cc rfl cn)))))) rfl
        · replace h := cf hb14 h
          refine okC_exit ?_
          refine okX_then_exit ?_
          refine okX_again_exit ?_
          refine okX_block_hit ?_
          exact okX_meet (I := _) ((s12.2.1, s12.2.2), (w13.1, w13.2)) (smh h) (cc rfl (cc rfl cn)) rfl
    · intro x hx
      obtain ⟨s7, w8⟩ := x
      change OkX _ _ _ [(6, (Ty.own w8.2)), (7, (Ty.own w8.1))] (rowL w8.1 31 1 lIs s7.1 :: rowL w8.2 31 1 lIs s7.2 :: Item.blk g1 27 [(tI a0.Params), (tI a0.Regs), (tL 5 Block.ty a0.Blocks)] :: L)
      obtain rfl : s7 = z9 := hx.symm
      replace h := hz10
      refine okX_next ?_
      refine okC_seq ?_
      refine okC_region ?_
      refine okL_step 39 (Ty.own w8.2) rfl rfl (does_move rfl) ?_
      refine okL_step 40 (Ty.own w8.1) rfl rfl (does_move rfl) ?_
      refine okL_step 2 (Ty.own w8.2) rfl rfl (does_assign rfl) ?_
      refine okL_step 3 (Ty.own w8.1) rfl rfl (does_assign rfl) ?_
      refine okL_nil ?_
      refine okX_next ?_
      refine okC_ret ?_
      obtain rfl := (smh h).symm
      refine okX_publish 1 [6, 39, 2] (rowL w8.1 31 1 lIs s7.1 :: Item.blk g1 27 [(tI a0.Params), (tI a0.Regs), (tL 5 Block.ty a0.Blocks)] :: L) rfl (ac rfl (ac rfl (ac rfl an))) rfl ?_
      refine okX_publish 0 [7, 40, 3] (Item.blk g1 27 [(tI a0.Params), (tI a0.Regs), (tL 5 Block.ty a0.Blocks)] :: L) rfl (ac rfl (ac rfl (ac rfl an))) rfl ?_
      refine okX_items [Item.blk g1 27 [(tI a0.Params), (tI a0.Regs), (tL 5 Block.ty a0.Blocks)]] (L) (pm 0 rfl (pr _)) ?_
      exact okX_ret2 () Tryd.results22 rfl rfl rfl rfl

def liveness_Points_l1 (K : Nat) (y9 : Block) : Nat → (Int × (List (List Int)) × (List Int)) → Option ((List (List Int)) × (List Int))
  | 0, _ => none
  | k + 1, s33 => (cnd (decide (s33.1 ≥ 0)) (Option.bind (idx y9.Instrs s33.1) (fun y36 => (Option.bind (liveness_transfer K s33.2.2 y36) (fun r38 => (Option.bind (liveness_set_list K r38) (fun r40 => (Option.bind (idx s33.2.1 s33.1) (fun y43 => (liveness_Points_l1 K y9 k ((w64 (s33.1 - 1)), (s33.2.1.set s33.1.toNat r40), r38)))))))))) (some (s33.2.1, s33.2.2)))

def liveness_Points (K : Nat) (a0 : VFunc) (a1 : Int) : Option (List (List Int)) :=
  (Option.bind (vcode_Valid K a0) (fun r2 => (cnd (((!r2) || (decide (a1 < 0))) || (decide (a1 ≥ ((a0.Blocks).length : Int)))) (some ([] : List (List Int))) (Option.bind (liveness_analyze K a0) (fun r7 => (Option.bind (idx a0.Blocks a1) (fun y9 => (Option.bind (idx r7.2 a1) (fun y13 => (Option.bind (app 8 ([] : List Int) y13) (fun l15 => (Option.bind (liveness_addTerminator l15 y9) (fun r18 => (Option.bind (mk 24 (w64 (((y9.Instrs).length : Int) + 1)) ([] : List Int)) (fun l20 => (Option.bind (liveness_set_list K r18) (fun r23 => (Option.bind (idx l20 ((y9.Instrs).length : Int)) (fun y26 => (Option.bind (liveness_Points_l1 K y9 K ((w64 (((y9.Instrs).length : Int) - 1)), (l20.set ((y9.Instrs).length : Int).toNat r23), r18)) (fun s28 => (some s28.1))))))))))))))))))))))

theorem c_liveness_Points (K : Nat) (a0 : VFunc) (a1 : Int) (r : (List (List Int))) (h : liveness_Points K a0 a1 = some r) : CallP Tryd.prog glob 24 [(Ty.agg [(tI a0.Params), (tI a0.Regs), (tL 5 Block.ty a0.Blocks)]), (tI a1)] (tL 1 lIs r) := by
  refine call_of_code Tryd.func24 rfl Tryd.ntmps24 rfl (fun L w => ?_)
  change OkC _ _ _ [(0, (Ty.agg [(tI a0.Params), (tI a0.Regs), (tL 5 Block.ty a0.Blocks)])), (1, (tI a1))] (L)
  unfold liveness_Points at h
  refine okC_seq ?_
  refine okC_region ?_
  refine okL_stepO 2 rfl rfl (doesO_box [(tI a0.Params), (tI a0.Regs), (tL 5 Block.ty a0.Blocks)] rfl (part_agg _) (fun g1 => ?_))
  refine okL_step 4 (Ty.val (.slice none 0 0)) rfl rfl (does_assign rfl) ?_
  refine okL_nil ?_
  refine okX_next ?_
  refine okC_seq ?_
  refine okC_seq ?_
  refine okC_region ?_
  refine okL_step 11 (Ty.agg [(tI a0.Params), (tI a0.Regs), (tL 5 Block.ty a0.Blocks)]) rfl rfl (does_loadBA [(tI a0.Params), (tI a0.Regs), (tL 5 Block.ty a0.Blocks)] Tryd.isAgg27 Tryd.sizeOf27 rfl 0 rfl rfl rfl) ?_
  obtain ⟨r2, hc3, h⟩ := bs h
  refine okL_step 12 (tB r2) rfl rfl (does_call0 (c_vcode_Valid K a0 r2 hc3) rfl Tryd.call63 rfl) ?_
  refine okL_step 13 (tB (!r2)) rfl rfl (does_not rfl) ?_
  refine okL_step 14 (tB (!r2)) rfl rfl (does_move rfl) ?_
  refine okL_meet (X := Bool) 3 (fun x => x = ((!r2) || (decide (a1 < 0)))) (fun x : Bool => [(1, (tI a1)), (2, (pAt g1 0)), (17, (tB x))]) (fun x : Bool => Item.blk g1 27 [(tI a0.Params), (tI a0.Regs), (tL 5 Block.ty a0.Blocks)] :: L) _ rfl ?_ ?_
  · refine okL_split (!r2) (fun hb4 => ?_) (fun hb4 => ?_)
    · refine okL_skip 15 14 (!r2) rfl rfl hb4 rfl rfl ?_
      refine okL_skip 16 14 (!r2) rfl rfl hb4 rfl rfl ?_
      refine okL_step 17 (tB true) rfl rfl (does_pick_t (!r2) rfl hb4 rfl) ?_
      refine okL_nil ?_
      exact okX_meet (I := _) true (or_t hb4) (cc rfl (cc rfl (cc rfl cn))) rfl
    · refine okL_guard 15 (tI a1) 14 (!r2) rfl rfl hb4 rfl rfl (does_move rfl) ?_
      refine okL_guard 16 (tB (decide (a1 < 0))) 14 (!r2) rfl rfl hb4 rfl rfl (does_lss rfl rfl) ?_
      refine okL_step 17 (tB (decide (a1 < 0))) rfl rfl (does_pick_f (!r2) rfl hb4 rfl) ?_
      refine okL_nil ?_
      exact okX_meet (I := _) (decide (a1 < 0)) (or_f hb4) (cc rfl (cc rfl (cc rfl cn))) rfl
  · intro x46 hx
    subst hx
    change OkL _ _ _ _ [(1, (tI a1)), (2, (pAt g1 0)), (17, (tB ((!r2) || (decide (a1 < 0)))))] (Item.blk g1 27 [(tI a0.Params), (tI a0.Regs), (tL 5 Block.ty a0.Blocks)] :: L)
    refine okL_step 18 (tB ((!r2) || (decide (a1 < 0)))) rfl rfl (does_move rfl) ?_
    refine okL_meet (X := Bool) 6 (fun x => x = (((!r2) || (decide (a1 < 0))) || (decide (a1 ≥ ((a0.Blocks).length : Int))))) (fun x : Bool => [(1, (tI a1)), (2, (pAt g1 0)), (24, (tB x))]) (fun x : Bool => Item.blk g1 27 [(tI a0.Params), (tI a0.Regs), (tL 5 Block.ty a0.Blocks)] :: L) _ rfl ?_ ?_
    · refine okL_split ((!r2) || (decide (a1 < 0))) (fun hb5 => ?_) (fun hb5 => ?_)
      · refine okL_skip 19 18 ((!r2) || (decide (a1 < 0))) rfl rfl hb5 rfl rfl ?_
        refine okL_skip 20 18 ((!r2) || (decide (a1 < 0))) rfl rfl hb5 rfl rfl ?_
        refine okL_skip 21 18 ((!r2) || (decide (a1 < 0))) rfl rfl hb5 rfl rfl ?_
        refine okL_skip 22 18 ((!r2) || (decide (a1 < 0))) rfl rfl hb5 rfl rfl ?_
        refine okL_skip 23 18 ((!r2) || (decide (a1 < 0))) rfl rfl hb5 rfl rfl ?_
        refine okL_step 24 (tB true) rfl rfl (does_pick_t ((!r2) || (decide (a1 < 0))) rfl hb5 rfl) ?_
        refine okL_nil ?_
        exact okX_meet (I := _) true (or_t hb5) (cc rfl (cc rfl (cc rfl cn))) rfl
      · refine okL_guard 19 (tI a1) 18 ((!r2) || (decide (a1 < 0))) rfl rfl hb5 rfl rfl (does_move rfl) ?_
        refine okL_guard 20 (pAt g1 2) 18 ((!r2) || (decide (a1 < 0))) rfl rfl hb5 rfl rfl (does_fieldAddrP 2 Tryd.underlying27 rfl Tryd.sizeOf25 rfl rfl) ?_
        refine okL_guard 21 (tL 5 Block.ty a0.Blocks) 18 ((!r2) || (decide (a1 < 0))) rfl rfl hb5 rfl rfl (does_loadB1 Tryd.isAgg25 rfl 0 rfl rfl) ?_
        refine okL_guard 22 (tI ((a0.Blocks).length : Int)) 18 ((!r2) || (decide (a1 < 0))) rfl rfl hb5 rfl rfl (does_len (sz := 5) (f := Block.ty) (l := a0.Blocks) rfl Tryd.underlying25 rfl) ?_
        refine okL_guard 23 (tB (decide (a1 ≥ ((a0.Blocks).length : Int)))) 18 ((!r2) || (decide (a1 < 0))) rfl rfl hb5 rfl rfl (does_geq rfl rfl) ?_
        refine okL_step 24 (tB (decide (a1 ≥ ((a0.Blocks).length : Int)))) rfl rfl (does_pick_f ((!r2) || (decide (a1 < 0))) rfl hb5 rfl) ?_
        refine okL_nil ?_
        exact okX_meet (I := _) (decide (a1 ≥ ((a0.Blocks).length : Int))) (or_f hb5) (cc rfl (cc rfl (cc rfl cn))) rfl
    · intro x45 hx
      subst hx
      change OkL _ _ _ _ [(1, (tI a1)), (2, (pAt g1 0)), (24, (tB (((!r2) || (decide (a1 < 0))) || (decide (a1 ≥ ((a0.Blocks).length : Int))))))] (Item.blk g1 27 [(tI a0.Params), (tI a0.Regs), (tL 5 Block.ty a0.Blocks)] :: L)
      refine okL_nil ?_
      refine okX_next ?_
      refine okC_cond (b := (((!r2) || (decide (a1 < 0))) || (decide (a1 ≥ ((a0.Blocks).length : Int))))) rfl (fun hb6 => ?_) (fun hb6 => ?_)
      · replace h := ct hb6 h
        refine okC_seq ?_
        refine okC_region ?_
        refine okL_step 4 (Ty.val (.slice none 0 0)) rfl rfl (does_assign rfl) ?_
        refine okL_nil ?_
        refine okX_next ?_
        refine okC_ret ?_
        refine okX_then_ret ?_
        obtain rfl := (smh h).symm
        refine okX_sub 4 (tL 1 lIs ([] : List (List Int))) rfl (sub_nil _) ?_
        refine okX_items [Item.blk g1 27 [(tI a0.Params), (tI a0.Regs), (tL 5 Block.ty a0.Blocks)]] (L) (pm 0 rfl (pr _)) ?_
        exact okX_ret1 () Tryd.results24 rfl rfl
      · replace h := cf hb6 h
        refine okC_skip ?_
        refine okX_next ?_
        refine okC_seq ?_
        refine okC_region ?_
        refine okL_step 26 (Ty.agg [(tI a0.Params), (tI a0.Regs), (tL 5 Block.ty a0.Blocks)]) rfl rfl (does_loadBA [(tI a0.Params), (tI a0.Regs), (tL 5 Block.ty a0.Blocks)] Tryd.isAgg27 Tryd.sizeOf27 rfl 0 rfl rfl rfl) ?_
        obtain ⟨r7, hc8, h⟩ := bs h
        refine okL_step 27 (Ty.tup [(tL 1 ls_SU r7.1), (tL 1 ls_SU r7.2)]) rfl rfl (does_call0 (c_liveness_analyze K a0 r7 hc8) rfl Tryd.call64 rfl) ?_
        refine okL_step 25 (Ty.tup [(tL 1 ls_SU r7.1), (tL 1 ls_SU r7.2)]) rfl rfl (does_move rfl) ?_
        refine okL_step 28 (tL 1 ls_SU r7.1) rfl rfl (does_extract rfl rfl) ?_
        refine okL_step 29 (tL 1 ls_SU r7.2) rfl rfl (does_extract rfl rfl) ?_
        refine okL_step 5 (tL 1 ls_SU r7.1) rfl rfl (does_assign rfl) ?_
        refine okL_step 6 (tL 1 ls_SU r7.2) rfl rfl (does_assign rfl) ?_
        refine okL_nil ?_
        refine okX_next ?_
        refine okC_seq ?_
        refine okC_region ?_
        refine okL_step 30 (pAt g1 2) rfl rfl (does_fieldAddrP 2 Tryd.underlying27 rfl Tryd.sizeOf25 rfl rfl) ?_
        refine okL_step 31 (tL 5 Block.ty a0.Blocks) rfl rfl (does_loadB1 Tryd.isAgg25 rfl 0 rfl rfl) ?_
        refine okL_step 32 (tI a1) rfl rfl (does_move rfl) ?_
        obtain ⟨y9, hi10, h⟩ := bs h
        refine okL_step 33 (Ty.ptr [(tL 6 VInstr.ty y9.Instrs), (tI y9.End), (tI y9.Reg), (tI y9.Target), (tI y9.Else)]) rfl rfl (does_index (sz := 5) (f := Block.ty) (l := a0.Blocks) (n := a1) y9 Tryd.underlying25 Tryd.sizeOf43 hi10 rfl rfl) ?_
        refine okL_step 34 (Ty.agg [(tL 6 VInstr.ty y9.Instrs), (tI y9.End), (tI y9.Reg), (tI y9.Target), (tI y9.Else)]) rfl rfl (does_loadA [(tL 6 VInstr.ty y9.Instrs), (tI y9.End), (tI y9.Reg), (tI y9.Target), (tI y9.Else)] Tryd.isAgg43 Tryd.sizeOf43 rfl rfl rfl) ?_
        refine okL_stepO 7 rfl rfl (doesO_alloc [(Ty.val (.slice none 0 0)), (tI 0), (tI 0), (tI 0), (tI 0)] Tryd.zeroValue43 (part_of (sub_agg [(.slice none 0 0), (.int .i64 0), (.int .i64 0), (.int .i64 0), (.int .i64 0)] rfl) (part_agg _)) (fun g11 => ?_))
        refine okL_stepU rfl (doesO_storeB (ps := [(tL 6 VInstr.ty y9.Instrs), (tI y9.End), (tI y9.Reg), (tI y9.Target), (tI y9.Else)]) 0 [(tL 6 VInstr.ty y9.Instrs), (tI y9.End), (tI y9.Reg), (tI y9.Target), (tI y9.Else)] (Item.blk g11 43 [(tL 6 VInstr.ty y9.Instrs), (tI y9.End), (tI y9.Reg), (tI y9.Target), (tI y9.Else)] :: Item.blk g1 27 [(tI a0.Params), (tI a0.Regs), (tL 5 Block.ty a0.Blocks)] :: L) rfl rfl (part_agg _) Tryd.sizeOf43 rfl rfl rfl rfl ?_)
        refine okL_nil ?_
        refine okX_next ?_
        refine okC_seq ?_
        refine okC_region ?_
        refine okL_stepO 35 rfl rfl (doesO_build0 (f := lU) el93 (fun v12 => ?_))
        refine okL_step 36 (tL 1 ls_SU r7.2) rfl rfl (does_move rfl) ?_
        refine okL_step 37 (tI a1) rfl rfl (does_move rfl) ?_
        obtain ⟨y13, hi14, h⟩ := bs h
        refine okL_step 38 (Ty.ptr [(tL 1 lU y13)]) rfl rfl (does_index (sz := 1) (f := ls_SU) (l := r7.2) (n := a1) y13 Tryd.underlying89 Tryd.sizeOf93 hi14 rfl rfl) ?_
        refine okL_step 39 (tL 1 lU y13) rfl rfl (does_load1 Tryd.isAgg93 rfl) ?_
        obtain ⟨l15, ha16, h⟩ := bs h
        refine okL_stepO 40 rfl rfl (doesO_append (f := lU) (l := ([] : List Int)) (m := y13) el93 0 l15 (fun v17 => rowL v17 137 1 lU l15 :: Item.blk g11 43 [(tL 6 VInstr.ty y9.Instrs), (tI y9.End), (tI y9.Reg), (tI y9.Target), (tI y9.Else)] :: Item.blk g1 27 [(tI a0.Params), (tI a0.Regs), (tL 5 Block.ty a0.Blocks)] :: L) ha16 rfl rfl rfl (fun _ => rfl) (fun v17 => ?_))
        refine okL_step 8 (Ty.own v17) rfl rfl (does_assign rfl) ?_
        refine okL_nil ?_
        refine okX_next ?_
        refine okC_seq ?_
        refine okC_region ?_
        refine okL_step 41 (Ty.own v17) rfl rfl (does_move rfl) ?_
        refine okL_step 42 (Ty.agg [(tL 6 VInstr.ty y9.Instrs), (tI y9.End), (tI y9.Reg), (tI y9.Target), (tI y9.Else)]) rfl rfl (does_loadBA [(tL 6 VInstr.ty y9.Instrs), (tI y9.End), (tI y9.Reg), (tI y9.Target), (tI y9.Else)] Tryd.isAgg43 Tryd.sizeOf43 rfl 1 rfl rfl rfl) ?_
        obtain ⟨r18, hc19, h⟩ := bs h
        refine okL_stepO 43 rfl rfl (doesO_call0 (Item.blk g11 43 [(tL 6 VInstr.ty y9.Instrs), (tI y9.End), (tI y9.Reg), (tI y9.Target), (tI y9.Else)] :: Item.blk g1 27 [(tI a0.Params), (tI a0.Regs), (tL 5 Block.ty a0.Blocks)] :: L) (c_liveness_addTerminator l15 y9 v17 r18 hc19) rfl Tryd.call67 rfl (pm 0 rfl (pr _)) (fun _ => ?_))
        refine okL_nil ?_
        refine okX_next ?_
        refine okC_seq ?_
        refine okC_region ?_
        refine okL_step 44 (pAt g11 0) rfl rfl (does_fieldAddrP 0 Tryd.underlying43 rfl Tryd.sizeOf41 rfl rfl) ?_
        refine okL_step 45 (tL 6 VInstr.ty y9.Instrs) rfl rfl (does_loadB1 Tryd.isAgg41 rfl 1 rfl rfl) ?_
        refine okL_step 46 (tI ((y9.Instrs).length : Int)) rfl rfl (does_len (sz := 6) (f := VInstr.ty) (l := y9.Instrs) rfl Tryd.underlying41 rfl) ?_
        refine okL_step 47 (tI (w64 (((y9.Instrs).length : Int) + 1))) rfl rfl (does_add rfl rfl) ?_
        obtain ⟨l20, hm21, h⟩ := bs h
        refine okL_stepO 48 rfl rfl (doesO_make (f := lIs) el22 ([] : List Int) l20 hm21 rfl rfl (part_sub (part_one (one_val rfl)) (.cons (sub_nil _) SubL.nil)) (fun v22 => ?_))
        refine okL_step 9 (Ty.own v22) rfl rfl (does_assign rfl) ?_
        refine okL_nil ?_
        refine okX_next ?_
        refine okC_seq ?_
        refine okC_cov [(7, (pAt g11 0)), (8, (Ty.own v17)), (9, (Ty.own v22))] (cc rfl (cc rfl (cc rfl cn))) ?_
        obtain ⟨r23, hc24, h⟩ := bs h
        refine okC_draw 6 [some (49, (Ty.own v22)), some (50, (pAt g11 0)), some (51, (tL 6 VInstr.ty y9.Instrs)), some (52, (tI ((y9.Instrs).length : Int))), some (53, (Ty.own v17)), none] ⟨rowL v22 31 1 lIs l20 :: rowL v17 137 1 lU r18 :: Item.blk g11 43 [(tL 6 VInstr.ty y9.Instrs), (tI y9.End), (tI y9.Reg), (tI y9.Target), (tI y9.Else)] :: Item.blk g1 27 [(tI a0.Params), (tI a0.Regs), (tL 5 Block.ty a0.Blocks)] :: ([] : List Item), rowL v22 31 1 lIs l20 :: rowL v17 137 1 lU r18 :: Item.blk g11 43 [(tL 6 VInstr.ty y9.Instrs), (tI y9.End), (tI y9.Reg), (tI y9.Target), (tI y9.Else)] :: Item.blk g1 27 [(tI a0.Params), (tI a0.Regs), (tL 5 Block.ty a0.Blocks)] :: ([] : List Item), []⟩ [5] mixed rfl rfl (by kernel_rfl) rfl (by kernel_rfl) rfl rfl rfl (fun _ h => List.Sublist.subset (.cons_cons _ (.cons_cons _ (.cons_cons _ (.cons_cons _ (List.nil_sublist _))))) h) (fun _ h => List.Sublist.subset (.cons_cons _ (.cons_cons _ (.cons_cons _ (.cons_cons _ (List.nil_sublist _))))) h) rfl (by kernel_rfl) (.inr ⟨by kernel_rfl, by kernel_rfl⟩) (by kernel_rfl) (by kernel_rfl) (dc (draw_plain rfl (does_move rfl)) (dc (draw_plain rfl (does_fieldAddrP 0 Tryd.underlying43 rfl Tryd.sizeOf41 rfl rfl)) (dc (draw_plain rfl (does_loadB1 Tryd.isAgg41 rfl 2 rfl rfl)) (dc (draw_plain rfl (does_len (sz := 6) (f := VInstr.ty) (l := y9.Instrs) rfl Tryd.underlying41 rfl)) (dc (draw_plain rfl (does_move rfl)) (ds (dn))))))) ?_
        refine ch_step [5] rfl (ap_cons (ch_at _ rfl rfl (doesO_callZ (rowL v22 31 1 lIs l20 :: rowL v17 137 1 lU r18 :: Item.blk g11 43 [(tL 6 VInstr.ty y9.Instrs), (tI y9.End), (tI y9.Reg), (tI y9.Target), (tI y9.Else)] :: Item.blk g1 27 [(tI a0.Params), (tI a0.Regs), (tL 5 Block.ty a0.Blocks)] :: L) (c_liveness_set_list K r18 r23 hc24) (fun _ => (ex_own _)) (fun _ => (.cons (ex_row exI) ExIts.nil)) rfl Tryd.call65 (.lend 1 rfl rfl ArgLend.nil) (pr _) (fun v25 => ?_))) (ap_nil))
        refine ⟨⟨(fun _ h => List.Sublist.subset (.cons _ (.cons_cons _ (.cons_cons _ (.cons_cons _ (.cons_cons _ (List.nil_sublist _)))))) h), .inr (fun _ h => List.Sublist.subset (.cons _ (.cons_cons _ (.cons_cons _ (.cons_cons _ (.cons_cons _ (List.nil_sublist _)))))) h)⟩, ?_⟩
        refine ch_end ?_
        change OkL _ _ _ _ [(49, (Ty.own v22)), (50, (pAt g11 0)), (51, (tL 6 VInstr.ty y9.Instrs)), (52, (tI ((y9.Instrs).length : Int))), (53, (Ty.own v17)), (54, (Ty.own v25)), (7, (pAt g11 0)), (8, (Ty.own v17)), (9, (Ty.own v22))] (rowL v25 3 1 lI r23 :: rowL v22 31 1 lIs l20 :: rowL v17 137 1 lU r18 :: Item.blk g11 43 [(tL 6 VInstr.ty y9.Instrs), (tI y9.End), (tI y9.Reg), (tI y9.Target), (tI y9.Else)] :: Item.blk g1 27 [(tI a0.Params), (tI a0.Regs), (tL 5 Block.ty a0.Blocks)] :: L)
        obtain ⟨y26, hi27, h⟩ := bs h
        refine okL_step 55 (Ty.rptr v22 (((y9.Instrs).length : Int).toNat * 1)) rfl rfl (does_indexR (f := lIs) (l := l20) (m := ((y9.Instrs).length : Int)) el22 1 y26 hi27 rfl rfl rfl) ?_
        refine okL_publish 0 [54] (rowL v22 31 1 lIs l20 :: rowL v17 137 1 lU r18 :: Item.blk g11 43 [(tL 6 VInstr.ty y9.Instrs), (tI y9.End), (tI y9.Reg), (tI y9.Target), (tI y9.Else)] :: Item.blk g1 27 [(tI a0.Params), (tI a0.Regs), (tL 5 Block.ty a0.Blocks)] :: L) rfl (ac rfl an) rfl ?_
        refine okL_stepU rfl (doesO_storeR (f := lIs) (l := l20) (sz := 1) (ps := [(tL 1 lI r23)]) (y0 := y26) (y1 := r23) (m := ((y9.Instrs).length : Int)) 0 0 (l20.set ((y9.Instrs).length : Int).toNat r23) (rowL v22 31 1 lIs (l20.set ((y9.Instrs).length : Int).toNat r23) :: rowL v17 137 1 lU r18 :: Item.blk g11 43 [(tL 6 VInstr.ty y9.Instrs), (tI y9.End), (tI y9.Reg), (tI y9.Target), (tI y9.Else)] :: Item.blk g1 27 [(tI a0.Params), (tI a0.Regs), (tL 5 Block.ty a0.Blocks)] :: L) rfl rfl (part_one (one_slice _ _)) Tryd.sizeOf31 rfl hi27 rfl rfl rfl rfl rfl ?_)
        refine okL_nil ?_
        refine okX_next ?_
        refine okC_seq ?_
        refine okC_seq ?_
        refine okC_region ?_
        refine okL_step 56 (pAt g11 0) rfl rfl (does_fieldAddrP 0 Tryd.underlying43 rfl Tryd.sizeOf41 rfl rfl) ?_
        refine okL_step 57 (tL 6 VInstr.ty y9.Instrs) rfl rfl (does_loadB1 Tryd.isAgg41 rfl 2 rfl rfl) ?_
        refine okL_step 58 (tI ((y9.Instrs).length : Int)) rfl rfl (does_len (sz := 6) (f := VInstr.ty) (l := y9.Instrs) rfl Tryd.underlying41 rfl) ?_
        refine okL_step 59 (tI (w64 (((y9.Instrs).length : Int) - 1))) rfl rfl (does_sub rfl rfl) ?_
        refine okL_step 10 (tI (w64 (((y9.Instrs).length : Int) - 1))) rfl rfl (does_assign rfl) ?_
        refine okL_nil ?_
        refine okX_next ?_
        obtain ⟨z30, h32, hz31⟩ := bs h
        refine okC_meetE (X := ((List (List Int)) × (List Int))) (fun x => z30 = x) (fun x : ((List (List Int)) × (List Int)) => [(9, (Ty.own v22))]) (fun x : ((List (List Int)) × (List Int)) => rowL v22 31 1 lIs x.1 :: rowL v17 137 1 lU x.2 :: Item.blk g11 43 [(tL 6 VInstr.ty y9.Instrs), (tI y9.End), (tI y9.Reg), (tI y9.Target), (tI y9.Else)] :: Item.blk g1 27 [(tI a0.Params), (tI a0.Regs), (tL 5 Block.ty a0.Blocks)] :: L) ?_ ?_
        · refine okC_block ?_
          refine okC_loop (X := (Int × (List (List Int)) × (List Int))) (fun k x => liveness_Points_l1 K y9 k x = some z30) (fun x : (Int × (List (List Int)) × (List Int)) => [(7, (pAt g11 0)), (8, (Ty.own v17)), (9, (Ty.own v22)), (10, (tI x.1))]) (fun x : (Int × (List (List Int)) × (List Int)) => rowL v22 31 1 lIs x.2.1 :: rowL v17 137 1 lU x.2.2 :: Item.blk g11 43 [(tL 6 VInstr.ty y9.Instrs), (tI y9.End), (tI y9.Reg), (tI y9.Target), (tI y9.Else)] :: Item.blk g1 27 [(tI a0.Params), (tI a0.Regs), (tL 5 Block.ty a0.Blocks)] :: L) K ((w64 (((y9.Instrs).length : Int) - 1)), (l20.set ((y9.Instrs).length : Int).toNat r23), r18) h32 (cc rfl (cc rfl (cc rfl (cc rfl cn)))) rfl (fun k s33 hI => ?_)
          change OkC _ _ _ [(7, (pAt g11 0)), (8, (Ty.own v17)), (9, (Ty.own v22)), (10, (tI s33.1))] (rowL v22 31 1 lIs s33.2.1 :: rowL v17 137 1 lU s33.2.2 :: Item.blk g11 43 [(tL 6 VInstr.ty y9.Instrs), (tI y9.End), (tI y9.Reg), (tI y9.Target), (tI y9.Else)] :: Item.blk g1 27 [(tI a0.Params), (tI a0.Regs), (tL 5 Block.ty a0.Blocks)] :: L)
          cases k with
          | zero => exact (nz hI).elim
          | succ k =>
            have h : liveness_Points_l1 K y9 (k + 1) s33 = some z30 := hI
            rw [liveness_Points_l1.eq_2] at h
            refine okC_seq ?_
            refine okC_seq ?_
            refine okC_region ?_
            refine okL_step 60 (tI s33.1) rfl rfl (does_move rfl) ?_
            refine okL_step 61 (tB (decide (s33.1 ≥ 0))) rfl rfl (does_geq rfl rfl) ?_
            refine okL_nil ?_
            refine okX_next ?_
            refine okC_cond (b := (decide (s33.1 ≥ 0))) rfl (fun hb35 => ?_) (fun hb35 => ?_)
            · replace h := ct hb35 h
              refine okC_skip ?_
              refine okX_next ?_
              refine okC_seq ?_
              refine okC_block ?_
              refine okC_seq ?_
              refine okC_region ?_
              refine okL_step 64 (Ty.own v17) rfl rfl (does_move rfl) ?_
              refine okL_step 65 (pAt g11 0) rfl rfl (does_fieldAddrP 0 Tryd.underlying43 rfl Tryd.sizeOf41 rfl rfl) ?_
              refine okL_step 66 (tL 6 VInstr.ty y9.Instrs) rfl rfl (does_loadB1 Tryd.isAgg41 rfl 2 rfl rfl) ?_
              refine okL_step 67 (tI s33.1) rfl rfl (does_move rfl) ?_
              obtain ⟨y36, hi37, h⟩ := bs h
              refine okL_step 68 (Ty.ptr [(tI y36.Instr.Op), (tI y36.Instr.A), (tI y36.Instr.B), (tI y36.Instr.C), (tI y36.Instr.N), (tL 1 lI y36.Args)]) rfl rfl (does_index (sz := 6) (f := VInstr.ty) (l := y9.Instrs) (n := s33.1) y36 Tryd.underlying41 Tryd.sizeOf48 hi37 rfl rfl) ?_
              refine okL_step 69 (Ty.agg [(tI y36.Instr.Op), (tI y36.Instr.A), (tI y36.Instr.B), (tI y36.Instr.C), (tI y36.Instr.N), (tL 1 lI y36.Args)]) rfl rfl (does_loadA [(tI y36.Instr.Op), (tI y36.Instr.A), (tI y36.Instr.B), (tI y36.Instr.C), (tI y36.Instr.N), (tL 1 lI y36.Args)] Tryd.isAgg48 Tryd.sizeOf48 rfl rfl rfl) ?_
              obtain ⟨r38, hc39, h⟩ := bs h
              refine okL_stepO 70 rfl rfl (doesO_call0 (rowL v22 31 1 lIs s33.2.1 :: Item.blk g11 43 [(tL 6 VInstr.ty y9.Instrs), (tI y9.End), (tI y9.Reg), (tI y9.Target), (tI y9.Else)] :: Item.blk g1 27 [(tI a0.Params), (tI a0.Regs), (tL 5 Block.ty a0.Blocks)] :: L) (c_liveness_transfer K s33.2.2 y36 v17 r38 hc39) rfl Tryd.call68 rfl (pm 1 rfl (pr _)) (fun _ => ?_))
              refine okL_nil ?_
              refine okX_next ?_
              refine okC_region ?_
              refine okL_step 71 (Ty.own v22) rfl rfl (does_move rfl) ?_
              refine okL_step 72 (tI s33.1) rfl rfl (does_move rfl) ?_
              refine okL_step 73 (Ty.own v17) rfl rfl (does_move rfl) ?_
              obtain ⟨r40, hc41, h⟩ := bs h
              refine okL_stepO 74 rfl rfl (doesO_callZ (rowL v17 137 1 lU r38 :: rowL v22 31 1 lIs s33.2.1 :: Item.blk g11 43 [(tL 6 VInstr.ty y9.Instrs), (tI y9.End), (tI y9.Reg), (tI y9.Target), (tI y9.Else)] :: Item.blk g1 27 [(tI a0.Params), (tI a0.Regs), (tL 5 Block.ty a0.Blocks)] :: L) (c_liveness_set_list K r38 r40 hc41) (fun _ => (ex_own _)) (fun _ => (.cons (ex_row exI) ExIts.nil)) rfl Tryd.call65 (.lend 0 rfl rfl ArgLend.nil) (pr _) (fun v42 => ?_))
              obtain ⟨y43, hi44, h⟩ := bs h
              refine okL_step 75 (Ty.rptr v22 (s33.1.toNat * 1)) rfl rfl (does_indexR (f := lIs) (l := s33.2.1) (m := s33.1) el22 2 y43 hi44 rfl rfl rfl) ?_
              refine okL_publish 0 [74] (rowL v17 137 1 lU r38 :: rowL v22 31 1 lIs s33.2.1 :: Item.blk g11 43 [(tL 6 VInstr.ty y9.Instrs), (tI y9.End), (tI y9.Reg), (tI y9.Target), (tI y9.Else)] :: Item.blk g1 27 [(tI a0.Params), (tI a0.Regs), (tL 5 Block.ty a0.Blocks)] :: L) rfl (ac rfl an) rfl ?_
              refine okL_stepU rfl (doesO_storeR (f := lIs) (l := s33.2.1) (sz := 1) (ps := [(tL 1 lI r40)]) (y0 := y43) (y1 := r40) (m := s33.1) 1 0 (s33.2.1.set s33.1.toNat r40) (rowL v17 137 1 lU r38 :: rowL v22 31 1 lIs (s33.2.1.set s33.1.toNat r40) :: Item.blk g11 43 [(tL 6 VInstr.ty y9.Instrs), (tI y9.End), (tI y9.Reg), (tI y9.Target), (tI y9.Else)] :: Item.blk g1 27 [(tI a0.Params), (tI a0.Regs), (tL 5 Block.ty a0.Blocks)] :: L) rfl rfl (part_one (one_slice _ _)) Tryd.sizeOf31 rfl hi44 rfl rfl rfl rfl rfl ?_)
              refine okL_nil ?_
              refine okX_block_normal ?_
              refine okX_next ?_
              refine okC_region ?_
              refine okL_step 62 (tI s33.1) rfl rfl (does_move rfl) ?_
              refine okL_step 63 (tI (w64 (s33.1 - 1))) rfl rfl (does_sub rfl rfl) ?_
              refine okL_step 10 (tI (w64 (s33.1 - 1))) rfl rfl (does_assign rfl) ?_
              refine okL_nil ?_
              refine okX_items [] (rowL v22 31 1 lIs (s33.2.1.set s33.1.toNat r40) :: rowL v17 137 1 lU r38 :: Item.blk g11 43 [(tL 6 VInstr.ty y9.Instrs), (tI y9.End), (tI y9.Reg), (tI y9.Target), (tI y9.Else)] :: Item.blk g1 27 [(tI a0.Params), (tI a0.Regs), (tL 5 Block.ty a0.Blocks)] :: L) (pm 1 rfl (pm 0 rfl (pm 0 rfl (pm 0 rfl (pr _))))) ?_
              exact okX_again k (Nat.lt_succ_self k) ((w64 (s33.1 - 1)), (s33.2.1.set s33.1.toNat r40), r38) h (cc rfl (cc rfl (cc rfl (cc rfl cn)))) rfl
            · replace h := cf hb35 h
              refine okC_exit ?_
              refine okX_then_exit ?_
              refine okX_again_exit ?_
              refine okX_block_hit ?_
              exact okX_meet (I := _) (s33.2.1, s33.2.2) (smh h) (cc rfl cn) rfl
        · intro s28 hx
          change OkX _ _ _ [(9, (Ty.own v22))] (rowL v22 31 1 lIs s28.1 :: rowL v17 137 1 lU s28.2 :: Item.blk g11 43 [(tL 6 VInstr.ty y9.Instrs), (tI y9.End), (tI y9.Reg), (tI y9.Target), (tI y9.Else)] :: Item.blk g1 27 [(tI a0.Params), (tI a0.Regs), (tL 5 Block.ty a0.Blocks)] :: L)
          obtain rfl : s28 = z30 := hx.symm
          replace h := hz31
          refine okX_next ?_
          refine okC_seq ?_
          refine okC_region ?_
          refine okL_step 76 (Ty.own v22) rfl rfl (does_move rfl) ?_
          refine okL_step 4 (Ty.own v22) rfl rfl (does_assign rfl) ?_
          refine okL_nil ?_
          refine okX_next ?_
          refine okC_ret ?_
          obtain rfl := (smh h).symm
          refine okX_publish 0 [9, 76, 4] (rowL v17 137 1 lU s28.2 :: Item.blk g11 43 [(tL 6 VInstr.ty y9.Instrs), (tI y9.End), (tI y9.Reg), (tI y9.Target), (tI y9.Else)] :: Item.blk g1 27 [(tI a0.Params), (tI a0.Regs), (tL 5 Block.ty a0.Blocks)] :: L) rfl (ac rfl (ac rfl (ac rfl an))) rfl ?_
          refine okX_items [rowL v17 137 1 lU s28.2, Item.blk g11 43 [(tL 6 VInstr.ty y9.Instrs), (tI y9.End), (tI y9.Reg), (tI y9.Target), (tI y9.Else)], Item.blk g1 27 [(tI a0.Params), (tI a0.Regs), (tL 5 Block.ty a0.Blocks)]] (L) (pm 0 rfl (pm 0 rfl (pm 0 rfl (pr _)))) ?_
          exact okX_ret1 () Tryd.results24 rfl rfl

def liveness_AcrossCalls_l3 (K : Nat) (y37 : VInstr) : Nat → (Int × (List Int)) → Option (List Int)
  | 0, _ => none
  | k + 1, s57 => (cnd (decide (s57.1 < ((y37.Args).length : Int))) (Option.bind (idx y37.Args s57.1) (fun y60 => (Option.bind (liveness_set_add s57.2 y60) (fun r62 => (liveness_AcrossCalls_l3 K y37 k ((w64 (s57.1 + 1)), r62)))))) (some s57.2))

def liveness_AcrossCalls_l2 (K : Nat) (y18 : Block) : Nat → (Int × (List Int) × (List Int)) → Option ((List Int) × (List Int))
  | 0, _ => none
  | k + 1, s34 => (cnd (decide (s34.1 ≥ 0)) (Option.bind (idx y18.Instrs s34.1) (fun y37 => (Option.bind (cnd (y37.Instr.Op == 6) (Option.bind (app 8 ([] : List Int) s34.2.1) (fun l47 => (Option.bind (liveness_set_remove l47 y37.Instr.A) (fun r50 => (Option.bind (liveness_AcrossCalls_l3 K y37 K (0, r50)) (fun s52 => (Option.bind (liveness_set_union K s34.2.2 s52) (fun r64 => (some r64.2))))))))) (some s34.2.2)) (fun s40 => (Option.bind (liveness_transfer K s34.2.1 y37) (fun r66 => (liveness_AcrossCalls_l2 K y18 k ((w64 (s34.1 - 1)), r66, s40)))))))) (some (s34.2.1, s34.2.2)))

def liveness_AcrossCalls_l1 (K : Nat) (a0 : VFunc) (r5 : (List (List Int)) × (List (List Int))) : Nat → (Int × (List Int)) → Option (List Int)
  | 0, _ => none
  | k + 1, s15 => (cnd (decide (s15.1 < ((a0.Blocks).length : Int))) (Option.bind (idx a0.Blocks s15.1) (fun y18 => (Option.bind (idx r5.2 s15.1) (fun y22 => (Option.bind (app 8 ([] : List Int) y22) (fun l24 => (Option.bind (liveness_addTerminator l24 y18) (fun r27 => (Option.bind (liveness_AcrossCalls_l2 K y18 K ((w64 (((y18.Instrs).length : Int) - 1)), r27, s15.2)) (fun s29 => (liveness_AcrossCalls_l1 K a0 r5 k ((w64 (s15.1 + 1)), s29.2)))))))))))) (some s15.2))

def liveness_AcrossCalls (K : Nat) (a0 : VFunc) : Option (List Int) :=
  (Option.bind (vcode_Valid K a0) (fun r2 => (cnd (!r2) (some ([] : List Int)) (Option.bind (liveness_analyze K a0) (fun r5 => (Option.bind (liveness_empty a0.Regs) (fun r7 => (Option.bind (liveness_AcrossCalls_l1 K a0 r5 K (0, r7)) (fun s10 => (Option.bind (liveness_set_list K s10) (fun r68 => (some r68))))))))))))

theorem c_liveness_AcrossCalls (K : Nat) (a0 : VFunc) (r : (List Int)) (h : liveness_AcrossCalls K a0 = some r) : CallP Tryd.prog glob 27 [(Ty.agg [(tI a0.Params), (tI a0.Regs), (tL 5 Block.ty a0.Blocks)])] (tL 1 lI r) := by
  refine call_of_code Tryd.func27 rfl Tryd.ntmps27 rfl (fun L w => ?_)
  change OkC _ _ _ [(0, (Ty.agg [(tI a0.Params), (tI a0.Regs), (tL 5 Block.ty a0.Blocks)]))] (L)
  unfold liveness_AcrossCalls at h
  refine okC_seq ?_
  refine okC_region ?_
  refine okL_stepO 1 rfl rfl (doesO_box [(tI a0.Params), (tI a0.Regs), (tL 5 Block.ty a0.Blocks)] rfl (part_agg _) (fun g1 => ?_))
  refine okL_step 2 (Ty.val (.slice none 0 0)) rfl rfl (does_assign rfl) ?_
  refine okL_nil ?_
  refine okX_next ?_
  refine okC_seq ?_
  refine okC_seq ?_
  refine okC_region ?_
  refine okL_step 14 (Ty.agg [(tI a0.Params), (tI a0.Regs), (tL 5 Block.ty a0.Blocks)]) rfl rfl (does_loadBA [(tI a0.Params), (tI a0.Regs), (tL 5 Block.ty a0.Blocks)] Tryd.isAgg27 Tryd.sizeOf27 rfl 0 rfl rfl rfl) ?_
  obtain ⟨r2, hc3, h⟩ := bs h
  refine okL_step 15 (tB r2) rfl rfl (does_call0 (c_vcode_Valid K a0 r2 hc3) rfl Tryd.call63 rfl) ?_
  refine okL_step 16 (tB (!r2)) rfl rfl (does_not rfl) ?_
  refine okL_nil ?_
  refine okX_next ?_
  refine okC_cond (b := (!r2)) rfl (fun hb4 => ?_) (fun hb4 => ?_)
  · replace h := ct hb4 h
    refine okC_seq ?_
    refine okC_region ?_
    refine okL_step 2 (Ty.val (.slice none 0 0)) rfl rfl (does_assign rfl) ?_
    refine okL_nil ?_
    refine okX_next ?_
    refine okC_ret ?_
    refine okX_then_ret ?_
    obtain rfl := (smh h).symm
    refine okX_sub 2 (tL 1 lI ([] : List Int)) rfl (sub_nil _) ?_
    refine okX_items [Item.blk g1 27 [(tI a0.Params), (tI a0.Regs), (tL 5 Block.ty a0.Blocks)]] (L) (pm 0 rfl (pr _)) ?_
    exact okX_ret1 () Tryd.results27 rfl rfl
  · replace h := cf hb4 h
    refine okC_skip ?_
    refine okX_next ?_
    refine okC_seq ?_
    refine okC_region ?_
    refine okL_step 18 (Ty.agg [(tI a0.Params), (tI a0.Regs), (tL 5 Block.ty a0.Blocks)]) rfl rfl (does_loadBA [(tI a0.Params), (tI a0.Regs), (tL 5 Block.ty a0.Blocks)] Tryd.isAgg27 Tryd.sizeOf27 rfl 0 rfl rfl rfl) ?_
    obtain ⟨r5, hc6, h⟩ := bs h
    refine okL_step 19 (Ty.tup [(tL 1 ls_SU r5.1), (tL 1 ls_SU r5.2)]) rfl rfl (does_call0 (c_liveness_analyze K a0 r5 hc6) rfl Tryd.call64 rfl) ?_
    refine okL_step 17 (Ty.tup [(tL 1 ls_SU r5.1), (tL 1 ls_SU r5.2)]) rfl rfl (does_move rfl) ?_
    refine okL_step 20 (tL 1 ls_SU r5.1) rfl rfl (does_extract rfl rfl) ?_
    refine okL_step 21 (tL 1 ls_SU r5.2) rfl rfl (does_extract rfl rfl) ?_
    refine okL_step 3 (tL 1 ls_SU r5.1) rfl rfl (does_assign rfl) ?_
    refine okL_step 4 (tL 1 ls_SU r5.2) rfl rfl (does_assign rfl) ?_
    refine okL_nil ?_
    refine okX_next ?_
    refine okC_seq ?_
    refine okC_region ?_
    refine okL_step 22 (pAt g1 1) rfl rfl (does_fieldAddrP 1 Tryd.underlying27 rfl Tryd.sizeOf3 rfl rfl) ?_
    refine okL_step 23 (tI a0.Regs) rfl rfl (does_loadB1 Tryd.isAgg3 rfl 0 rfl rfl) ?_
    obtain ⟨r7, hc8, h⟩ := bs h
    refine okL_stepO 24 rfl rfl (doesO_call0 (Item.blk g1 27 [(tI a0.Params), (tI a0.Regs), (tL 5 Block.ty a0.Blocks)] :: L) (c_liveness_empty a0.Regs r7 hc8) rfl Tryd.call70 rfl (pr _) (fun v9 => ?_))
    refine okL_step 5 (Ty.own v9) rfl rfl (does_assign rfl) ?_
    refine okL_nil ?_
    refine okX_next ?_
    refine okC_seq ?_
    refine okC_seq ?_
    refine okC_region ?_
    refine okL_step 25 (pAt g1 2) rfl rfl (does_fieldAddrP 2 Tryd.underlying27 rfl Tryd.sizeOf25 rfl rfl) ?_
    refine okL_step 26 (tL 5 Block.ty a0.Blocks) rfl rfl (does_loadB1 Tryd.isAgg25 rfl 1 rfl rfl) ?_
    refine okL_step 27 (tI ((a0.Blocks).length : Int)) rfl rfl (does_len (sz := 5) (f := Block.ty) (l := a0.Blocks) rfl Tryd.underlying25 rfl) ?_
    refine okL_step 28 (tI 0) rfl rfl (does_move rfl) ?_
    refine okL_nil ?_
    refine okX_next ?_
    obtain ⟨z12, h14, hz13⟩ := bs h
    refine okC_meetE (X := (List Int)) (fun x => z12 = x) (fun x : (List Int) => [(5, (Ty.own v9))]) (fun x : (List Int) => rowL v9 137 1 lU x :: Item.blk g1 27 [(tI a0.Params), (tI a0.Regs), (tL 5 Block.ty a0.Blocks)] :: L) ?_ ?_
    · refine okC_block ?_
      refine okC_loop (X := (Int × (List Int))) (fun k x => liveness_AcrossCalls_l1 K a0 r5 k x = some z12) (fun x : (Int × (List Int)) => [(4, (tL 1 ls_SU r5.2)), (5, (Ty.own v9)), (26, (tL 5 Block.ty a0.Blocks)), (27, (tI ((a0.Blocks).length : Int))), (28, (tI x.1))]) (fun x : (Int × (List Int)) => rowL v9 137 1 lU x.2 :: Item.blk g1 27 [(tI a0.Params), (tI a0.Regs), (tL 5 Block.ty a0.Blocks)] :: L) K (0, r7) h14 (cc rfl (cc rfl (cc rfl (cc rfl (cc rfl cn))))) rfl (fun k s15 hI => ?_)
      change OkC _ _ _ [(4, (tL 1 ls_SU r5.2)), (5, (Ty.own v9)), (26, (tL 5 Block.ty a0.Blocks)), (27, (tI ((a0.Blocks).length : Int))), (28, (tI s15.1))] (rowL v9 137 1 lU s15.2 :: Item.blk g1 27 [(tI a0.Params), (tI a0.Regs), (tL 5 Block.ty a0.Blocks)] :: L)
      cases k with
      | zero => exact (nz hI).elim
      | succ k =>
        have h : liveness_AcrossCalls_l1 K a0 r5 (k + 1) s15 = some z12 := hI
        rw [liveness_AcrossCalls_l1.eq_2] at h
        refine okC_seq ?_
        refine okC_region ?_
        refine okL_step 29 (tB (decide (s15.1 < ((a0.Blocks).length : Int)))) rfl rfl (does_lss rfl rfl) ?_
        refine okL_nil ?_
        refine okX_next ?_
        refine okC_seq ?_
        refine okC_cond (b := (decide (s15.1 < ((a0.Blocks).length : Int)))) rfl (fun hb17 => ?_) (fun hb17 => ?_)
        · replace h := ct hb17 h
          refine okC_skip ?_
          refine okX_next ?_
          refine okC_seq ?_
          refine okC_block ?_
          refine okC_seq ?_
          refine okC_region ?_
          refine okL_step 30 (tI s15.1) rfl rfl (does_move rfl) ?_
          obtain ⟨y18, hi19, h⟩ := bs h
          refine okL_step 31 (Ty.ptr [(tL 6 VInstr.ty y18.Instrs), (tI y18.End), (tI y18.Reg), (tI y18.Target), (tI y18.Else)]) rfl rfl (does_index (sz := 5) (f := Block.ty) (l := a0.Blocks) (n := s15.1) y18 Tryd.underlying25 Tryd.sizeOf43 hi19 rfl rfl) ?_
          refine okL_step 32 (Ty.agg [(tL 6 VInstr.ty y18.Instrs), (tI y18.End), (tI y18.Reg), (tI y18.Target), (tI y18.Else)]) rfl rfl (does_loadA [(tL 6 VInstr.ty y18.Instrs), (tI y18.End), (tI y18.Reg), (tI y18.Target), (tI y18.Else)] Tryd.isAgg43 Tryd.sizeOf43 rfl rfl rfl) ?_
          refine okL_stepO 7 rfl rfl (doesO_alloc [(Ty.val (.slice none 0 0)), (tI 0), (tI 0), (tI 0), (tI 0)] Tryd.zeroValue43 (part_of (sub_agg [(.slice none 0 0), (.int .i64 0), (.int .i64 0), (.int .i64 0), (.int .i64 0)] rfl) (part_agg _)) (fun g20 => ?_))
          refine okL_step 6 (tI s15.1) rfl rfl (does_assign rfl) ?_
          refine okL_stepU rfl (doesO_storeB (ps := [(tL 6 VInstr.ty y18.Instrs), (tI y18.End), (tI y18.Reg), (tI y18.Target), (tI y18.Else)]) 0 [(tL 6 VInstr.ty y18.Instrs), (tI y18.End), (tI y18.Reg), (tI y18.Target), (tI y18.Else)] (Item.blk g20 43 [(tL 6 VInstr.ty y18.Instrs), (tI y18.End), (tI y18.Reg), (tI y18.Target), (tI y18.Else)] :: rowL v9 137 1 lU s15.2 :: Item.blk g1 27 [(tI a0.Params), (tI a0.Regs), (tL 5 Block.ty a0.Blocks)] :: L) rfl rfl (part_agg _) Tryd.sizeOf43 rfl rfl rfl rfl ?_)
          refine okL_nil ?_
          refine okX_next ?_
          refine okC_seq ?_
          refine okC_region ?_
          refine okL_stepO 33 rfl rfl (doesO_build0 (f := lU) el93 (fun v21 => ?_))
          refine okL_step 34 (tL 1 ls_SU r5.2) rfl rfl (does_move rfl) ?_
          refine okL_step 35 (tI s15.1) rfl rfl (does_move rfl) ?_
          obtain ⟨y22, hi23, h⟩ := bs h
          refine okL_step 36 (Ty.ptr [(tL 1 lU y22)]) rfl rfl (does_index (sz := 1) (f := ls_SU) (l := r5.2) (n := s15.1) y22 Tryd.underlying89 Tryd.sizeOf93 hi23 rfl rfl) ?_
          refine okL_step 37 (tL 1 lU y22) rfl rfl (does_load1 Tryd.isAgg93 rfl) ?_
          obtain ⟨l24, ha25, h⟩ := bs h
          refine okL_stepO 38 rfl rfl (doesO_append (f := lU) (l := ([] : List Int)) (m := y22) el93 0 l24 (fun v26 => rowL v26 137 1 lU l24 :: Item.blk g20 43 [(tL 6 VInstr.ty y18.Instrs), (tI y18.End), (tI y18.Reg), (tI y18.Target), (tI y18.Else)] :: rowL v9 137 1 lU s15.2 :: Item.blk g1 27 [(tI a0.Params), (tI a0.Regs), (tL 5 Block.ty a0.Blocks)] :: L) ha25 rfl rfl rfl (fun _ => rfl) (fun v26 => ?_))
          refine okL_step 8 (Ty.own v26) rfl rfl (does_assign rfl) ?_
          refine okL_nil ?_
          refine okX_next ?_
          refine okC_seq ?_
          refine okC_region ?_
          refine okL_step 39 (Ty.own v26) rfl rfl (does_move rfl) ?_
          refine okL_step 40 (Ty.agg [(tL 6 VInstr.ty y18.Instrs), (tI y18.End), (tI y18.Reg), (tI y18.Target), (tI y18.Else)]) rfl rfl (does_loadBA [(tL 6 VInstr.ty y18.Instrs), (tI y18.End), (tI y18.Reg), (tI y18.Target), (tI y18.Else)] Tryd.isAgg43 Tryd.sizeOf43 rfl 1 rfl rfl rfl) ?_
          obtain ⟨r27, hc28, h⟩ := bs h
          refine okL_stepO 41 rfl rfl (doesO_call0 (Item.blk g20 43 [(tL 6 VInstr.ty y18.Instrs), (tI y18.End), (tI y18.Reg), (tI y18.Target), (tI y18.Else)] :: rowL v9 137 1 lU s15.2 :: Item.blk g1 27 [(tI a0.Params), (tI a0.Regs), (tL 5 Block.ty a0.Blocks)] :: L) (c_liveness_addTerminator l24 y18 v26 r27 hc28) rfl Tryd.call67 rfl (pm 0 rfl (pr _)) (fun _ => ?_))
          refine okL_nil ?_
          refine okX_next ?_
          refine okC_seq ?_
          refine okC_region ?_
          refine okL_step 42 (pAt g20 0) rfl rfl (does_fieldAddrP 0 Tryd.underlying43 rfl Tryd.sizeOf41 rfl rfl) ?_
          refine okL_step 43 (tL 6 VInstr.ty y18.Instrs) rfl rfl (does_loadB1 Tryd.isAgg41 rfl 1 rfl rfl) ?_
          refine okL_step 44 (tI ((y18.Instrs).length : Int)) rfl rfl (does_len (sz := 6) (f := VInstr.ty) (l := y18.Instrs) rfl Tryd.underlying41 rfl) ?_
          refine okL_step 45 (tI (w64 (((y18.Instrs).length : Int) - 1))) rfl rfl (does_sub rfl rfl) ?_
          refine okL_step 9 (tI (w64 (((y18.Instrs).length : Int) - 1))) rfl rfl (does_assign rfl) ?_
          refine okL_nil ?_
          refine okX_next ?_
          obtain ⟨z31, h33, hz32⟩ := bs h
          refine okC_meetE (X := ((List Int) × (List Int))) (fun x => z31 = x) (fun x : ((List Int) × (List Int)) => [(4, (tL 1 ls_SU r5.2)), (5, (Ty.own v9)), (26, (tL 5 Block.ty a0.Blocks)), (27, (tI ((a0.Blocks).length : Int))), (28, (tI s15.1))]) (fun x : ((List Int) × (List Int)) => rowL v26 137 1 lU x.1 :: Item.blk g20 43 [(tL 6 VInstr.ty y18.Instrs), (tI y18.End), (tI y18.Reg), (tI y18.Target), (tI y18.Else)] :: rowL v9 137 1 lU x.2 :: Item.blk g1 27 [(tI a0.Params), (tI a0.Regs), (tL 5 Block.ty a0.Blocks)] :: L) ?_ ?_
          · refine okC_block ?_
            refine okC_loop (X := (Int × (List Int) × (List Int))) (fun k x => liveness_AcrossCalls_l2 K y18 k x = some z31) (fun x : (Int × (List Int) × (List Int)) => [(4, (tL 1 ls_SU r5.2)), (5, (Ty.own v9)), (7, (pAt g20 0)), (8, (Ty.own v26)), (9, (tI x.1)), (26, (tL 5 Block.ty a0.Blocks)), (27, (tI ((a0.Blocks).length : Int))), (28, (tI s15.1))]) (fun x : (Int × (List Int) × (List Int)) => rowL v26 137 1 lU x.2.1 :: Item.blk g20 43 [(tL 6 VInstr.ty y18.Instrs), (tI y18.End), (tI y18.Reg), (tI y18.Target), (tI y18.Else)] :: rowL v9 137 1 lU x.2.2 :: Item.blk g1 27 [(tI a0.Params), (tI a0.Regs), (tL 5 Block.ty a0.Blocks)] :: L) K ((w64 (((y18.Instrs).length : Int) - 1)), r27, s15.2) h33 (cc rfl (cc rfl (cc rfl (cc rfl (cc rfl (cc rfl (cc rfl (cc rfl cn)))))))) rfl (fun k s34 hI => ?_)
            change OkC _ _ _ [(4, (tL 1 ls_SU r5.2)), (5, (Ty.own v9)), (7, (pAt g20 0)), (8, (Ty.own v26)), (9, (tI s34.1)), (26, (tL 5 Block.ty a0.Blocks)), (27, (tI ((a0.Blocks).length : Int))), (28, (tI s15.1))] (rowL v26 137 1 lU s34.2.1 :: Item.blk g20 43 [(tL 6 VInstr.ty y18.Instrs), (tI y18.End), (tI y18.Reg), (tI y18.Target), (tI y18.Else)] :: rowL v9 137 1 lU s34.2.2 :: Item.blk g1 27 [(tI a0.Params), (tI a0.Regs), (tL 5 Block.ty a0.Blocks)] :: L)
            cases k with
            | zero => exact (nz hI).elim
            | succ k =>
              have h : liveness_AcrossCalls_l2 K y18 (k + 1) s34 = some z31 := hI
              rw [liveness_AcrossCalls_l2.eq_2] at h
              refine okC_seq ?_
              refine okC_seq ?_
              refine okC_region ?_
              refine okL_step 46 (tI s34.1) rfl rfl (does_move rfl) ?_
              refine okL_step 47 (tB (decide (s34.1 ≥ 0))) rfl rfl (does_geq rfl rfl) ?_
              refine okL_nil ?_
              refine okX_next ?_
              refine okC_cond (b := (decide (s34.1 ≥ 0))) rfl (fun hb36 => ?_) (fun hb36 => ?_)
              · replace h := ct hb36 h
                refine okC_skip ?_
                refine okX_next ?_
                refine okC_seq ?_
                refine okC_block ?_
                refine okC_seq ?_
                refine okC_region ?_
                refine okL_step 50 (pAt g20 0) rfl rfl (does_fieldAddrP 0 Tryd.underlying43 rfl Tryd.sizeOf41 rfl rfl) ?_
                refine okL_step 51 (tL 6 VInstr.ty y18.Instrs) rfl rfl (does_loadB1 Tryd.isAgg41 rfl 1 rfl rfl) ?_
                refine okL_step 52 (tI s34.1) rfl rfl (does_move rfl) ?_
                obtain ⟨y37, hi38, h⟩ := bs h
                refine okL_step 53 (Ty.ptr [(tI y37.Instr.Op), (tI y37.Instr.A), (tI y37.Instr.B), (tI y37.Instr.C), (tI y37.Instr.N), (tL 1 lI y37.Args)]) rfl rfl (does_index (sz := 6) (f := VInstr.ty) (l := y18.Instrs) (n := s34.1) y37 Tryd.underlying41 Tryd.sizeOf48 hi38 rfl rfl) ?_
                refine okL_step 54 (Ty.agg [(tI y37.Instr.Op), (tI y37.Instr.A), (tI y37.Instr.B), (tI y37.Instr.C), (tI y37.Instr.N), (tL 1 lI y37.Args)]) rfl rfl (does_loadA [(tI y37.Instr.Op), (tI y37.Instr.A), (tI y37.Instr.B), (tI y37.Instr.C), (tI y37.Instr.N), (tL 1 lI y37.Args)] Tryd.isAgg48 Tryd.sizeOf48 rfl rfl rfl) ?_
                refine okL_stepO 10 rfl rfl (doesO_alloc [(tI 0), (tI 0), (tI 0), (tI 0), (tI 0), (Ty.val (.slice none 0 0))] Tryd.zeroValue48 (part_of (sub_agg [(.int .i64 0), (.int .i64 0), (.int .i64 0), (.int .i64 0), (.int .i64 0), (.slice none 0 0)] rfl) (part_agg _)) (fun g39 => ?_))
                refine okL_stepU rfl (doesO_storeB (ps := [(tI y37.Instr.Op), (tI y37.Instr.A), (tI y37.Instr.B), (tI y37.Instr.C), (tI y37.Instr.N), (tL 1 lI y37.Args)]) 0 [(tI y37.Instr.Op), (tI y37.Instr.A), (tI y37.Instr.B), (tI y37.Instr.C), (tI y37.Instr.N), (tL 1 lI y37.Args)] (Item.blk g39 48 [(tI y37.Instr.Op), (tI y37.Instr.A), (tI y37.Instr.B), (tI y37.Instr.C), (tI y37.Instr.N), (tL 1 lI y37.Args)] :: rowL v26 137 1 lU s34.2.1 :: Item.blk g20 43 [(tL 6 VInstr.ty y18.Instrs), (tI y18.End), (tI y18.Reg), (tI y18.Target), (tI y18.Else)] :: rowL v9 137 1 lU s34.2.2 :: Item.blk g1 27 [(tI a0.Params), (tI a0.Regs), (tL 5 Block.ty a0.Blocks)] :: L) rfl rfl (part_agg _) Tryd.sizeOf48 rfl rfl rfl rfl ?_)
                refine okL_nil ?_
                refine okX_next ?_
                obtain ⟨z42, h44, hz43⟩ := bs h
                refine okC_meet (X := (List Int)) (fun x => z42 = x) (fun x : (List Int) => [(4, (tL 1 ls_SU r5.2)), (5, (Ty.own v9)), (7, (pAt g20 0)), (8, (Ty.own v26)), (9, (tI s34.1)), (10, (pAt g39 0)), (26, (tL 5 Block.ty a0.Blocks)), (27, (tI ((a0.Blocks).length : Int))), (28, (tI s15.1))]) (fun x : (List Int) => Item.blk g39 48 [(tI y37.Instr.Op), (tI y37.Instr.A), (tI y37.Instr.B), (tI y37.Instr.C), (tI y37.Instr.N), (tL 1 lI y37.Args)] :: rowL v26 137 1 lU s34.2.1 :: Item.blk g20 43 [(tL 6 VInstr.ty y18.Instrs), (tI y18.End), (tI y18.Reg), (tI y18.Target), (tI y18.Else)] :: rowL v9 137 1 lU x :: Item.blk g1 27 [(tI a0.Params), (tI a0.Regs), (tL 5 Block.ty a0.Blocks)] :: L) ?_ ?_
                · refine okC_seq ?_
                  refine okC_region ?_
                  refine okL_step 55 (pAt g39 0) rfl rfl (does_fieldAddrP 0 Tryd.underlying48 rfl Tryd.sizeOf46 rfl rfl) ?_
                  refine okL_step 56 (pAt g39 0) rfl rfl (does_fieldAddrP 0 Tryd.underlying46 rfl Tryd.sizeOf3 rfl rfl) ?_
                  refine okL_step 57 (tI y37.Instr.Op) rfl rfl (does_loadB1 Tryd.isAgg3 rfl 0 rfl rfl) ?_
                  refine okL_step 58 (tB (y37.Instr.Op == 6)) rfl rfl (does_eql rfl rfl) ?_
                  refine okL_nil ?_
                  refine okX_next ?_
                  refine okC_cond (b := (y37.Instr.Op == 6)) rfl (fun hb45 => ?_) (fun hb45 => ?_)
                  · replace h44 := ct hb45 h44
                    refine okC_seq ?_
                    refine okC_region ?_
                    refine okL_stepO 59 rfl rfl (doesO_build0 (f := lU) el93 (fun v46 => ?_))
                    refine okL_step 60 (Ty.own v26) rfl rfl (does_move rfl) ?_
                    obtain ⟨l47, ha48, h44⟩ := bs h44
                    refine okL_stepO 61 rfl rfl (doesO_appendZ (f := lU) (l := ([] : List Int)) (m := s34.2.1) el93 (Item.blk g39 48 [(tI y37.Instr.Op), (tI y37.Instr.A), (tI y37.Instr.B), (tI y37.Instr.C), (tI y37.Instr.N), (tL 1 lI y37.Args)] :: rowL v26 137 1 lU s34.2.1 :: Item.blk g20 43 [(tL 6 VInstr.ty y18.Instrs), (tI y18.End), (tI y18.Reg), (tI y18.Target), (tI y18.Else)] :: rowL v9 137 1 lU s34.2.2 :: Item.blk g1 27 [(tI a0.Params), (tI a0.Regs), (tL 5 Block.ty a0.Blocks)] :: L) 1 l47 ha48 exU rfl (pm 0 rfl (pr _)) rfl rfl (fun v49 => ?_))
                    refine okL_step 11 (Ty.own v49) rfl rfl (does_assign rfl) ?_
                    refine okL_nil ?_
                    refine okX_next ?_
                    refine okC_seq ?_
                    refine okC_region ?_
                    refine okL_step 62 (Ty.own v49) rfl rfl (does_move rfl) ?_
                    refine okL_step 63 (pAt g39 0) rfl rfl (does_fieldAddrP 0 Tryd.underlying48 rfl Tryd.sizeOf46 rfl rfl) ?_
                    refine okL_step 64 (pAt g39 1) rfl rfl (does_fieldAddrP 1 Tryd.underlying46 rfl Tryd.sizeOf3 rfl rfl) ?_
                    refine okL_step 65 (tI y37.Instr.A) rfl rfl (does_loadB1 Tryd.isAgg3 rfl 1 rfl rfl) ?_
                    obtain ⟨r50, hc51, h44⟩ := bs h44
                    refine okL_stepO 66 rfl rfl (doesO_call0 (Item.blk g39 48 [(tI y37.Instr.Op), (tI y37.Instr.A), (tI y37.Instr.B), (tI y37.Instr.C), (tI y37.Instr.N), (tL 1 lI y37.Args)] :: rowL v26 137 1 lU s34.2.1 :: Item.blk g20 43 [(tL 6 VInstr.ty y18.Instrs), (tI y18.End), (tI y18.Reg), (tI y18.Target), (tI y18.Else)] :: rowL v9 137 1 lU s34.2.2 :: Item.blk g1 27 [(tI a0.Params), (tI a0.Regs), (tL 5 Block.ty a0.Blocks)] :: L) (c_liveness_set_remove l47 y37.Instr.A v49 r50 hc51) rfl Tryd.call71 rfl (pm 0 rfl (pr _)) (fun _ => ?_))
                    refine okL_nil ?_
                    refine okX_next ?_
                    refine okC_seq ?_
                    refine okC_seq ?_
                    refine okC_region ?_
                    refine okL_step 67 (pAt g39 5) rfl rfl (does_fieldAddrP 5 Tryd.underlying48 rfl Tryd.sizeOf31 rfl rfl) ?_
                    refine okL_step 68 (tL 1 lI y37.Args) rfl rfl (does_loadB1 Tryd.isAgg31 rfl 1 rfl rfl) ?_
                    refine okL_step 69 (tI ((y37.Args).length : Int)) rfl rfl (does_len (sz := 1) (f := lI) (l := y37.Args) rfl Tryd.underlying31 rfl) ?_
                    refine okL_step 70 (tI 0) rfl rfl (does_move rfl) ?_
                    refine okL_nil ?_
                    refine okX_next ?_
                    obtain ⟨z54, h56, hz55⟩ := bs h44
                    refine okC_meetE (X := (List Int)) (fun x => z54 = x) (fun x : (List Int) => [(4, (tL 1 ls_SU r5.2)), (5, (Ty.own v9)), (7, (pAt g20 0)), (8, (Ty.own v26)), (9, (tI s34.1)), (10, (pAt g39 0)), (11, (Ty.own v49)), (26, (tL 5 Block.ty a0.Blocks)), (27, (tI ((a0.Blocks).length : Int))), (28, (tI s15.1))]) (fun x : (List Int) => rowL v49 137 1 lU x :: Item.blk g39 48 [(tI y37.Instr.Op), (tI y37.Instr.A), (tI y37.Instr.B), (tI y37.Instr.C), (tI y37.Instr.N), (tL 1 lI y37.Args)] :: rowL v26 137 1 lU s34.2.1 :: Item.blk g20 43 [(tL 6 VInstr.ty y18.Instrs), (tI y18.End), (tI y18.Reg), (tI y18.Target), (tI y18.Else)] :: rowL v9 137 1 lU s34.2.2 :: Item.blk g1 27 [(tI a0.Params), (tI a0.Regs), (tL 5 Block.ty a0.Blocks)] :: L) ?_ ?_
                    · refine okC_block ?_
                      refine okC_loop (X := (Int × (List Int))) (fun k x => liveness_AcrossCalls_l3 K y37 k x = some z54) (fun x : (Int × (List Int)) => [(4, (tL 1 ls_SU r5.2)), (5, (Ty.own v9)), (7, (pAt g20 0)), (8, (Ty.own v26)), (9, (tI s34.1)), (10, (pAt g39 0)), (11, (Ty.own v49)), (26, (tL 5 Block.ty a0.Blocks)), (27, (tI ((a0.Blocks).length : Int))), (28, (tI s15.1)), (68, (tL 1 lI y37.Args)), (69, (tI ((y37.Args).length : Int))), (70, (tI x.1))]) (fun x : (Int × (List Int)) => rowL v49 137 1 lU x.2 :: Item.blk g39 48 [(tI y37.Instr.Op), (tI y37.Instr.A), (tI y37.Instr.B), (tI y37.Instr.C), (tI y37.Instr.N), (tL 1 lI y37.Args)] :: rowL v26 137 1 lU s34.2.1 :: Item.blk g20 43 [(tL 6 VInstr.ty y18.Instrs), (tI y18.End), (tI y18.Reg), (tI y18.Target), (tI y18.Else)] :: rowL v9 137 1 lU s34.2.2 :: Item.blk g1 27 [(tI a0.Params), (tI a0.Regs), (tL 5 Block.ty a0.Blocks)] :: L) K (0, r50) h56 (cc rfl (cc rfl (cc rfl (cc rfl (cc rfl (cc rfl (cc rfl (cc rfl (cc rfl (cc rfl (cc rfl (cc rfl (cc rfl cn))))))))))))) rfl (fun k s57 hI => ?_)
                      change OkC _ _ _ [(4, (tL 1 ls_SU r5.2)), (5, (Ty.own v9)), (7, (pAt g20 0)), (8, (Ty.own v26)), (9, (tI s34.1)), (10, (pAt g39 0)), (11, (Ty.own v49)), (26, (tL 5 Block.ty a0.Blocks)), (27, (tI ((a0.Blocks).length : Int))), (28, (tI s15.1)), (68, (tL 1 lI y37.Args)), (69, (tI ((y37.Args).length : Int))), (70, (tI s57.1))] (rowL v49 137 1 lU s57.2 :: Item.blk g39 48 [(tI y37.Instr.Op), (tI y37.Instr.A), (tI y37.Instr.B), (tI y37.Instr.C), (tI y37.Instr.N), (tL 1 lI y37.Args)] :: rowL v26 137 1 lU s34.2.1 :: Item.blk g20 43 [(tL 6 VInstr.ty y18.Instrs), (tI y18.End), (tI y18.Reg), (tI y18.Target), (tI y18.Else)] :: rowL v9 137 1 lU s34.2.2 :: Item.blk g1 27 [(tI a0.Params), (tI a0.Regs), (tL 5 Block.ty a0.Blocks)] :: L)
                      cases k with
                      | zero => exact (nz hI).elim
                      | succ k =>
                        have h : liveness_AcrossCalls_l3 K y37 (k + 1) s57 = some z54 := hI
                        rw [liveness_AcrossCalls_l3.eq_2] at h
                        refine okC_seq ?_
                        refine okC_region ?_
                        refine okL_step 71 (tB (decide (s57.1 < ((y37.Args).length : Int)))) rfl rfl (does_lss rfl rfl) ?_
                        refine okL_nil ?_
                        refine okX_next ?_
                        refine okC_seq ?_
                        refine okC_cond (b := (decide (s57.1 < ((y37.Args).length : Int)))) rfl (fun hb59 => ?_) (fun hb59 => ?_)
                        · replace h := ct hb59 h
                          refine okC_skip ?_
                          refine okX_next ?_
                          refine okC_seq ?_
                          refine okC_block ?_
                          refine okC_seq ?_
                          refine okC_region ?_
                          obtain ⟨y60, hi61, h⟩ := bs h
                          refine okL_step 72 (Ty.ptr [(tI y60)]) rfl rfl (does_index (sz := 1) (f := lI) (l := y37.Args) (n := s57.1) y60 Tryd.underlying31 Tryd.sizeOf3 hi61 rfl rfl) ?_
                          refine okL_step 73 (tI y60) rfl rfl (does_load1 Tryd.isAgg3 rfl) ?_
                          refine okL_step 13 (tI y60) rfl rfl (does_assign rfl) ?_
                          refine okL_nil ?_
                          refine okX_next ?_
                          refine okC_region ?_
                          refine okL_step 74 (Ty.own v49) rfl rfl (does_move rfl) ?_
                          refine okL_step 75 (tI y60) rfl rfl (does_move rfl) ?_
                          obtain ⟨r62, hc63, h⟩ := bs h
                          refine okL_stepO 76 rfl rfl (doesO_call0 (Item.blk g39 48 [(tI y37.Instr.Op), (tI y37.Instr.A), (tI y37.Instr.B), (tI y37.Instr.C), (tI y37.Instr.N), (tL 1 lI y37.Args)] :: rowL v26 137 1 lU s34.2.1 :: Item.blk g20 43 [(tL 6 VInstr.ty y18.Instrs), (tI y18.End), (tI y18.Reg), (tI y18.Target), (tI y18.Else)] :: rowL v9 137 1 lU s34.2.2 :: Item.blk g1 27 [(tI a0.Params), (tI a0.Regs), (tL 5 Block.ty a0.Blocks)] :: L) (c_liveness_set_add s57.2 y60 v49 r62 hc63) rfl Tryd.call72 rfl (pm 0 rfl (pr _)) (fun _ => ?_))
                          refine okL_nil ?_
                          refine okX_block_normal ?_
                          refine okX_next ?_
                          refine okC_region ?_
                          refine okL_step 77 (tI (w64 (s57.1 + 1))) rfl rfl (does_add rfl rfl) ?_
                          refine okL_step 70 (tI (w64 (s57.1 + 1))) rfl rfl (does_move rfl) ?_
                          refine okL_nil ?_
                          exact okX_again k (Nat.lt_succ_self k) ((w64 (s57.1 + 1)), r62) h (cc rfl (cc rfl (cc rfl (cc rfl (cc rfl (cc rfl (cc rfl (cc rfl (cc rfl (cc rfl (cc rfl (cc rfl (cc rfl cn))))))))))))) rfl
                        · replace h := cf hb59 h
                          refine okC_exit ?_
                          refine okX_then_exit ?_
                          refine okX_again_exit ?_
                          refine okX_block_hit ?_
                          exact okX_meet (I := _) s57.2 (smh h) (cc rfl (cc rfl (cc rfl (cc rfl (cc rfl (cc rfl (cc rfl (cc rfl (cc rfl (cc rfl cn)))))))))) rfl
                    · intro s52 hx
                      change OkX _ _ _ [(4, (tL 1 ls_SU r5.2)), (5, (Ty.own v9)), (7, (pAt g20 0)), (8, (Ty.own v26)), (9, (tI s34.1)), (10, (pAt g39 0)), (11, (Ty.own v49)), (26, (tL 5 Block.ty a0.Blocks)), (27, (tI ((a0.Blocks).length : Int))), (28, (tI s15.1))] (rowL v49 137 1 lU s52 :: Item.blk g39 48 [(tI y37.Instr.Op), (tI y37.Instr.A), (tI y37.Instr.B), (tI y37.Instr.C), (tI y37.Instr.N), (tL 1 lI y37.Args)] :: rowL v26 137 1 lU s34.2.1 :: Item.blk g20 43 [(tL 6 VInstr.ty y18.Instrs), (tI y18.End), (tI y18.Reg), (tI y18.Target), (tI y18.Else)] :: rowL v9 137 1 lU s34.2.2 :: Item.blk g1 27 [(tI a0.Params), (tI a0.Regs), (tL 5 Block.ty a0.Blocks)] :: L)
                      obtain rfl : s52 = z54 := hx.symm
                      replace h44 := hz55
                      refine okX_next ?_
                      refine okC_region ?_
                      refine okL_step 78 (Ty.own v9) rfl rfl (does_move rfl) ?_
                      refine okL_step 79 (Ty.own v49) rfl rfl (does_move rfl) ?_
                      obtain ⟨r64, hc65, h44⟩ := bs h44
                      refine okL_stepO 80 rfl rfl (doesO_callZ (rowL v49 137 1 lU s52 :: Item.blk g39 48 [(tI y37.Instr.Op), (tI y37.Instr.A), (tI y37.Instr.B), (tI y37.Instr.C), (tI y37.Instr.N), (tL 1 lI y37.Args)] :: rowL v26 137 1 lU s34.2.1 :: Item.blk g20 43 [(tL 6 VInstr.ty y18.Instrs), (tI y18.End), (tI y18.Reg), (tI y18.Target), (tI y18.Else)] :: Item.blk g1 27 [(tI a0.Params), (tI a0.Regs), (tL 5 Block.ty a0.Blocks)] :: L) (c_liveness_set_union K s34.2.2 s52 v9 r64 hc65) (fun _ => (ex_val _)) (fun _ => (.cons (ex_row exU) ExIts.nil)) rfl Tryd.call73 (.cons rfl (sub_refl _) (.lend 0 rfl rfl ArgLend.nil)) (pm 4 rfl (pr _)) (fun _ => ?_))
                      refine okL_nil ?_
                      refine okX_items [rowL v49 137 1 lU s52] (Item.blk g39 48 [(tI y37.Instr.Op), (tI y37.Instr.A), (tI y37.Instr.B), (tI y37.Instr.C), (tI y37.Instr.N), (tL 1 lI y37.Args)] :: rowL v26 137 1 lU s34.2.1 :: Item.blk g20 43 [(tL 6 VInstr.ty y18.Instrs), (tI y18.End), (tI y18.Reg), (tI y18.Target), (tI y18.Else)] :: rowL v9 137 1 lU r64.2 :: Item.blk g1 27 [(tI a0.Params), (tI a0.Regs), (tL 5 Block.ty a0.Blocks)] :: L) (pm 1 rfl (pm 1 rfl (pm 1 rfl (pm 1 rfl (pm 0 rfl (pm 0 rfl (pr _))))))) ?_
                      exact okX_meet (I := _) r64.2 (smh h44) (cc rfl (cc rfl (cc rfl (cc rfl (cc rfl (cc rfl (cc rfl (cc rfl (cc rfl cn))))))))) rfl
                  · replace h44 := cf hb45 h44
                    refine okC_skip ?_
                    exact okX_meet (I := _) s34.2.2 (smh h44) (cc rfl (cc rfl (cc rfl (cc rfl (cc rfl (cc rfl (cc rfl (cc rfl (cc rfl cn))))))))) rfl
                · intro s40 hx
                  change OkC _ _ _ [(4, (tL 1 ls_SU r5.2)), (5, (Ty.own v9)), (7, (pAt g20 0)), (8, (Ty.own v26)), (9, (tI s34.1)), (10, (pAt g39 0)), (26, (tL 5 Block.ty a0.Blocks)), (27, (tI ((a0.Blocks).length : Int))), (28, (tI s15.1))] (Item.blk g39 48 [(tI y37.Instr.Op), (tI y37.Instr.A), (tI y37.Instr.B), (tI y37.Instr.C), (tI y37.Instr.N), (tL 1 lI y37.Args)] :: rowL v26 137 1 lU s34.2.1 :: Item.blk g20 43 [(tL 6 VInstr.ty y18.Instrs), (tI y18.End), (tI y18.Reg), (tI y18.Target), (tI y18.Else)] :: rowL v9 137 1 lU s40 :: Item.blk g1 27 [(tI a0.Params), (tI a0.Regs), (tL 5 Block.ty a0.Blocks)] :: L)
                  obtain rfl : s40 = z42 := hx.symm
                  replace h := hz43
                  refine okC_region ?_
                  refine okL_step 81 (Ty.own v26) rfl rfl (does_move rfl) ?_
                  refine okL_step 82 (Ty.agg [(tI y37.Instr.Op), (tI y37.Instr.A), (tI y37.Instr.B), (tI y37.Instr.C), (tI y37.Instr.N), (tL 1 lI y37.Args)]) rfl rfl (does_loadBA [(tI y37.Instr.Op), (tI y37.Instr.A), (tI y37.Instr.B), (tI y37.Instr.C), (tI y37.Instr.N), (tL 1 lI y37.Args)] Tryd.isAgg48 Tryd.sizeOf48 rfl 0 rfl rfl rfl) ?_
                  obtain ⟨r66, hc67, h⟩ := bs h
                  refine okL_stepO 83 rfl rfl (doesO_call0 (Item.blk g39 48 [(tI y37.Instr.Op), (tI y37.Instr.A), (tI y37.Instr.B), (tI y37.Instr.C), (tI y37.Instr.N), (tL 1 lI y37.Args)] :: Item.blk g20 43 [(tL 6 VInstr.ty y18.Instrs), (tI y18.End), (tI y18.Reg), (tI y18.Target), (tI y18.Else)] :: rowL v9 137 1 lU s40 :: Item.blk g1 27 [(tI a0.Params), (tI a0.Regs), (tL 5 Block.ty a0.Blocks)] :: L) (c_liveness_transfer K s34.2.1 y37 v26 r66 hc67) rfl Tryd.call68 rfl (pm 1 rfl (pr _)) (fun _ => ?_))
                  refine okL_nil ?_
                  refine okX_block_normal ?_
                  refine okX_next ?_
                  refine okC_region ?_
                  refine okL_step 48 (tI s34.1) rfl rfl (does_move rfl) ?_
                  refine okL_step 49 (tI (w64 (s34.1 - 1))) rfl rfl (does_sub rfl rfl) ?_
                  refine okL_step 9 (tI (w64 (s34.1 - 1))) rfl rfl (does_assign rfl) ?_
                  refine okL_nil ?_
                  refine okX_items [Item.blk g39 48 [(tI y37.Instr.Op), (tI y37.Instr.A), (tI y37.Instr.B), (tI y37.Instr.C), (tI y37.Instr.N), (tL 1 lI y37.Args)]] (rowL v26 137 1 lU r66 :: Item.blk g20 43 [(tL 6 VInstr.ty y18.Instrs), (tI y18.End), (tI y18.Reg), (tI y18.Target), (tI y18.Else)] :: rowL v9 137 1 lU s40 :: Item.blk g1 27 [(tI a0.Params), (tI a0.Regs), (tL 5 Block.ty a0.Blocks)] :: L) (pm 1 rfl (pm 0 rfl (pm 0 rfl (pm 0 rfl (pm 0 rfl (pr _)))))) ?_
                  exact okX_again k (Nat.lt_succ_self k) ((w64 (s34.1 - 1)), r66, s40) h (cc rfl (cc rfl (cc rfl (cc rfl (cc rfl (cc rfl (cc rfl (cc rfl cn)))))))) rfl
              · replace h := cf hb36 h
                refine okC_exit ?_
                refine okX_then_exit ?_
                refine okX_again_exit ?_
                refine okX_block_hit ?_
                exact okX_meet (I := _) (s34.2.1, s34.2.2) (smh h) (cc rfl (cc rfl (cc rfl (cc rfl (cc rfl cn))))) rfl
          · intro s29 hx
            change OkX _ _ _ [(4, (tL 1 ls_SU r5.2)), (5, (Ty.own v9)), (26, (tL 5 Block.ty a0.Blocks)), (27, (tI ((a0.Blocks).length : Int))), (28, (tI s15.1))] (rowL v26 137 1 lU s29.1 :: Item.blk g20 43 [(tL 6 VInstr.ty y18.Instrs), (tI y18.End), (tI y18.Reg), (tI y18.Target), (tI y18.Else)] :: rowL v9 137 1 lU s29.2 :: Item.blk g1 27 [(tI a0.Params), (tI a0.Regs), (tL 5 Block.ty a0.Blocks)] :: L)
            obtain rfl : s29 = z31 := hx.symm
            replace h := hz32
            refine okX_block_normal ?_
            refine okX_next ?_
            refine okC_region ?_
            refine okL_step 84 (tI (w64 (s15.1 + 1))) rfl rfl (does_add rfl rfl) ?_
            refine okL_step 28 (tI (w64 (s15.1 + 1))) rfl rfl (does_move rfl) ?_
            refine okL_nil ?_
            refine okX_items [rowL v26 137 1 lU s29.1, Item.blk g20 43 [(tL 6 VInstr.ty y18.Instrs), (tI y18.End), (tI y18.Reg), (tI y18.Target), (tI y18.Else)]] (rowL v9 137 1 lU s29.2 :: Item.blk g1 27 [(tI a0.Params), (tI a0.Regs), (tL 5 Block.ty a0.Blocks)] :: L) (pm 0 rfl (pm 0 rfl (pm 0 rfl (pm 0 rfl (pr _))))) ?_
            exact okX_again k (Nat.lt_succ_self k) ((w64 (s15.1 + 1)), s29.2) h (cc rfl (cc rfl (cc rfl (cc rfl (cc rfl cn))))) rfl
        · replace h := cf hb17 h
          refine okC_exit ?_
          refine okX_then_exit ?_
          refine okX_again_exit ?_
          refine okX_block_hit ?_
          exact okX_meet (I := _) s15.2 (smh h) (cc rfl cn) rfl
    · intro s10 hx
      change OkX _ _ _ [(5, (Ty.own v9))] (rowL v9 137 1 lU s10 :: Item.blk g1 27 [(tI a0.Params), (tI a0.Regs), (tL 5 Block.ty a0.Blocks)] :: L)
      obtain rfl : s10 = z12 := hx.symm
      replace h := hz13
      refine okX_next ?_
      refine okC_seq ?_
      refine okC_region ?_
      refine okL_step 85 (Ty.own v9) rfl rfl (does_move rfl) ?_
      refine okL_publish 0 [5, 85] (Item.blk g1 27 [(tI a0.Params), (tI a0.Regs), (tL 5 Block.ty a0.Blocks)] :: L) rfl (ac rfl (ac rfl an)) rfl ?_
      obtain ⟨r68, hc69, h⟩ := bs h
      refine okL_step 86 (tL 1 lI r68) rfl rfl (does_call0 (d_liveness_set_list K s10 r68 hc69) rfl Tryd.call65 rfl) ?_
      refine okL_step 2 (tL 1 lI r68) rfl rfl (does_assign rfl) ?_
      refine okL_nil ?_
      refine okX_next ?_
      refine okC_ret ?_
      obtain rfl := (smh h).symm
      refine okX_items [Item.blk g1 27 [(tI a0.Params), (tI a0.Regs), (tL 5 Block.ty a0.Blocks)]] (L) (pm 0 rfl (pr _)) ?_
      exact okX_ret1 () Tryd.results27 rfl rfl

def law33_LivenessExamples (K : Nat) : Option Bool :=
  (Option.bind (law33_example) (fun r1 => (Option.bind (liveness_Blocks K r1) (fun r3 => (Option.bind (law33_example) (fun r5 => (Option.bind (liveness_Points K r5 1) (fun r7 => (Option.bind (ref32_SameLists K r3.1 ([[], ([0, 1] : List Int), ([0] : List Int)] : List (List Int))) (fun r9 => (Option.bind (cnd r9 (Option.bind (ref32_SameLists K r3.2 ([([0, 1] : List Int), ([0, 1] : List Int), []] : List (List Int))) (fun r16 => (some r16))) (some false)) (fun x15 => (Option.bind (cnd (x15 && (((r7).length : Int) == 5)) (Option.bind (idx r7 4) (fun y24 => (Option.bind (ref22_SameInts K y24 ([0, 1] : List Int)) (fun r26 => (some r26))))) (some false)) (fun x23 => (Option.bind (cnd x23 (Option.bind (law33_example) (fun r33 => (Option.bind (liveness_AcrossCalls K r33) (fun r35 => (some (((r35).length : Int) == 0)))))) (some false)) (fun x32 => (some x32)))))))))))))))))

theorem c_law33_LivenessExamples (K : Nat) (r : Bool) (h : law33_LivenessExamples K = some r) : CallP Tryd.prog glob 3 [] (tB r) := by
  refine call_of_code Tryd.func3 rfl Tryd.ntmps3 rfl (fun L w => ?_)
  change OkC _ _ _ [] (L)
  unfold law33_LivenessExamples at h
  refine okC_seq ?_
  refine okC_region ?_
  refine okL_step 0 (tB false) rfl rfl (does_assign rfl) ?_
  refine okL_nil ?_
  refine okX_next ?_
  refine okC_seq ?_
  refine okC_region ?_
  obtain ⟨r1, hc2, h⟩ := bs h
  refine okL_step 5 (Ty.agg [(tI r1.Params), (tI r1.Regs), (tL 5 Block.ty r1.Blocks)]) rfl rfl (does_call0 (c_law33_example r1 hc2) rfl Tryd.call23 rfl) ?_
  obtain ⟨r3, hc4, h⟩ := bs h
  refine okL_step 6 (Ty.tup [(tL 1 lIs r3.1), (tL 1 lIs r3.2)]) rfl rfl (does_call0 (c_liveness_Blocks K r1 r3 hc4) rfl Tryd.call22 rfl) ?_
  refine okL_step 4 (Ty.tup [(tL 1 lIs r3.1), (tL 1 lIs r3.2)]) rfl rfl (does_move rfl) ?_
  refine okL_step 7 (tL 1 lIs r3.1) rfl rfl (does_extract rfl rfl) ?_
  refine okL_step 8 (tL 1 lIs r3.2) rfl rfl (does_extract rfl rfl) ?_
  refine okL_step 1 (tL 1 lIs r3.1) rfl rfl (does_assign rfl) ?_
  refine okL_step 2 (tL 1 lIs r3.2) rfl rfl (does_assign rfl) ?_
  refine okL_nil ?_
  refine okX_next ?_
  refine okC_seq ?_
  refine okC_region ?_
  obtain ⟨r5, hc6, h⟩ := bs h
  refine okL_step 9 (Ty.agg [(tI r5.Params), (tI r5.Regs), (tL 5 Block.ty r5.Blocks)]) rfl rfl (does_call0 (c_law33_example r5 hc6) rfl Tryd.call23 rfl) ?_
  obtain ⟨r7, hc8, h⟩ := bs h
  refine okL_step 10 (tL 1 lIs r7) rfl rfl (does_call0 (c_liveness_Points K r5 1 r7 hc8) rfl Tryd.call24 rfl) ?_
  refine okL_step 3 (tL 1 lIs r7) rfl rfl (does_assign rfl) ?_
  refine okL_nil ?_
  refine okX_next ?_
  refine okC_seq ?_
  refine okC_region ?_
  refine okL_step 11 (tL 1 lIs r3.1) rfl rfl (does_move rfl) ?_
  refine okL_step 12 (tL 1 lI ([0, 1] : List Int)) rfl rfl (does_buildSlice (f := lI) ([0, 1] : List Int) [(tI 0), (tI 1)] el31 rfl rfl rfl (fc [(tI 0)] 0 rfl (part_one (one_i _)) rfl rfl (fc [(tI 1)] 1 rfl (part_one (one_i _)) rfl rfl (fn_ rfl))) rfl (fun _ => rfl)) ?_
  refine okL_step 13 (tL 1 lI ([0] : List Int)) rfl rfl (does_buildSlice (f := lI) ([0] : List Int) [(tI 0)] el31 rfl rfl rfl (fc [(tI 0)] 0 rfl (part_one (one_i _)) rfl rfl (fn_ rfl)) rfl (fun _ => rfl)) ?_
  refine okL_step 14 (tL 1 lIs ([[], ([0, 1] : List Int), ([0] : List Int)] : List (List Int))) rfl rfl (does_buildSlice (f := lIs) ([[], ([0, 1] : List Int), ([0] : List Int)] : List (List Int)) [(tL 1 lI []), (tL 1 lI ([0, 1] : List Int)), (tL 1 lI ([0] : List Int))] el22 rfl rfl rfl (fc [(tL 1 lI [])] 0 rfl (part_sub (part_one (one_val rfl)) (.cons (sub_nil _) SubL.nil)) rfl rfl (fc [(tL 1 lI ([0, 1] : List Int))] 1 rfl (part_one (one_slice _ _)) rfl rfl (fc [(tL 1 lI ([0] : List Int))] 2 rfl (part_one (one_slice _ _)) rfl rfl (fn_ rfl)))) rfl (fun _ => rfl)) ?_
  obtain ⟨r9, hc10, h⟩ := bs h
  refine okL_step 15 (tB r9) rfl rfl (does_call0 (c_ref32_SameLists K r3.1 ([[], ([0, 1] : List Int), ([0] : List Int)] : List (List Int)) r9 hc10) rfl Tryd.call25 rfl) ?_
  refine okL_step 16 (tB r9) rfl rfl (does_move rfl) ?_
  obtain ⟨z12, h14, hz13⟩ := bs h
  refine okL_meet (X := Bool) 6 (fun x => z12 = x) (fun x : Bool => [(0, (tB false)), (3, (tL 1 lIs r7)), (22, (tB x))]) (fun x : Bool => L) _ rfl ?_ ?_
  · refine okL_split r9 (fun hb11 => ?_) (fun hb11 => ?_)
    · replace h14 := ct hb11 h14
      refine okL_guard 17 (tL 1 lIs r3.2) 16 r9 rfl rfl hb11 rfl rfl (does_move rfl) ?_
      refine okL_guard 18 (tL 1 lI ([0, 1] : List Int)) 16 r9 rfl rfl hb11 rfl rfl (does_buildSlice (f := lI) ([0, 1] : List Int) [(tI 0), (tI 1)] el31 rfl rfl rfl (fc [(tI 0)] 0 rfl (part_one (one_i _)) rfl rfl (fc [(tI 1)] 1 rfl (part_one (one_i _)) rfl rfl (fn_ rfl))) rfl (fun _ => rfl)) ?_
      refine okL_guard 19 (tL 1 lI ([0, 1] : List Int)) 16 r9 rfl rfl hb11 rfl rfl (does_buildSlice (f := lI) ([0, 1] : List Int) [(tI 0), (tI 1)] el31 rfl rfl rfl (fc [(tI 0)] 0 rfl (part_one (one_i _)) rfl rfl (fc [(tI 1)] 1 rfl (part_one (one_i _)) rfl rfl (fn_ rfl))) rfl (fun _ => rfl)) ?_
      refine okL_guard 20 (tL 1 lIs ([([0, 1] : List Int), ([0, 1] : List Int), []] : List (List Int))) 16 r9 rfl rfl hb11 rfl rfl (does_buildSlice (f := lIs) ([([0, 1] : List Int), ([0, 1] : List Int), []] : List (List Int)) [(tL 1 lI ([0, 1] : List Int)), (tL 1 lI ([0, 1] : List Int)), (tL 1 lI [])] el22 rfl rfl rfl (fc [(tL 1 lI ([0, 1] : List Int))] 0 rfl (part_one (one_slice _ _)) rfl rfl (fc [(tL 1 lI ([0, 1] : List Int))] 1 rfl (part_one (one_slice _ _)) rfl rfl (fc [(tL 1 lI [])] 2 rfl (part_sub (part_one (one_val rfl)) (.cons (sub_nil _) SubL.nil)) rfl rfl (fn_ rfl)))) rfl (fun _ => rfl)) ?_
      obtain ⟨r16, hc17, h14⟩ := bs h14
      refine okL_guard 21 (tB r16) 16 r9 rfl rfl hb11 rfl rfl (does_call0 (c_ref32_SameLists K r3.2 ([([0, 1] : List Int), ([0, 1] : List Int), []] : List (List Int)) r16 hc17) rfl Tryd.call25 rfl) ?_
      refine okL_step 22 (tB r16) rfl rfl (does_pick_t r9 rfl hb11 rfl) ?_
      refine okL_nil ?_
      exact okX_meet (I := _) r16 (smh h14) (cc rfl (cc rfl (cc rfl cn))) rfl
    · replace h14 := cf hb11 h14
      refine okL_skip 17 16 r9 rfl rfl hb11 rfl rfl ?_
      refine okL_skip 18 16 r9 rfl rfl hb11 rfl rfl ?_
      refine okL_skip 19 16 r9 rfl rfl hb11 rfl rfl ?_
      refine okL_skip 20 16 r9 rfl rfl hb11 rfl rfl ?_
      refine okL_skip 21 16 r9 rfl rfl hb11 rfl rfl ?_
      refine okL_step 22 (tB false) rfl rfl (does_pick_f r9 rfl hb11 rfl) ?_
      refine okL_nil ?_
      exact okX_meet (I := _) false (smh h14) (cc rfl (cc rfl (cc rfl cn))) rfl
  · intro x15 hx
    obtain rfl : x15 = z12 := hx.symm
    replace h := hz13
    change OkL _ _ _ _ [(0, (tB false)), (3, (tL 1 lIs r7)), (22, (tB x15))] (L)
    refine okL_step 23 (tB x15) rfl rfl (does_move rfl) ?_
    refine okL_meet (X := Bool) 4 (fun x => x = (x15 && (((r7).length : Int) == 5))) (fun x : Bool => [(0, (tB false)), (3, (tL 1 lIs r7)), (27, (tB x))]) (fun x : Bool => L) _ rfl ?_ ?_
    · refine okL_split x15 (fun hb18 => ?_) (fun hb18 => ?_)
      · refine okL_guard 24 (tL 1 lIs r7) 23 x15 rfl rfl hb18 rfl rfl (does_move rfl) ?_
        refine okL_guard 25 (tI ((r7).length : Int)) 23 x15 rfl rfl hb18 rfl rfl (does_len (sz := 1) (f := lIs) (l := r7) rfl Tryd.underlying22 rfl) ?_
        refine okL_guard 26 (tB (((r7).length : Int) == 5)) 23 x15 rfl rfl hb18 rfl rfl (does_eql rfl rfl) ?_
        refine okL_step 27 (tB (((r7).length : Int) == 5)) rfl rfl (does_pick_t x15 rfl hb18 rfl) ?_
        refine okL_nil ?_
        exact okX_meet (I := _) (((r7).length : Int) == 5) (and_t hb18) (cc rfl (cc rfl (cc rfl cn))) rfl
      · refine okL_skip 24 23 x15 rfl rfl hb18 rfl rfl ?_
        refine okL_skip 25 23 x15 rfl rfl hb18 rfl rfl ?_
        refine okL_skip 26 23 x15 rfl rfl hb18 rfl rfl ?_
        refine okL_step 27 (tB false) rfl rfl (does_pick_f x15 rfl hb18 rfl) ?_
        refine okL_nil ?_
        exact okX_meet (I := _) false (and_f hb18) (cc rfl (cc rfl (cc rfl cn))) rfl
    · intro x37 hx
      subst hx
      change OkL _ _ _ _ [(0, (tB false)), (3, (tL 1 lIs r7)), (27, (tB (x15 && (((r7).length : Int) == 5))))] (L)
      refine okL_step 28 (tB (x15 && (((r7).length : Int) == 5))) rfl rfl (does_move rfl) ?_
      obtain ⟨z20, h22, hz21⟩ := bs h
      refine okL_meet (X := Bool) 6 (fun x => z20 = x) (fun x : Bool => [(0, (tB false)), (34, (tB x))]) (fun x : Bool => L) _ rfl ?_ ?_
      · refine okL_split (x15 && (((r7).length : Int) == 5)) (fun hb19 => ?_) (fun hb19 => ?_)
        · replace h22 := ct hb19 h22
          refine okL_guard 29 (tL 1 lIs r7) 28 (x15 && (((r7).length : Int) == 5)) rfl rfl hb19 rfl rfl (does_move rfl) ?_
          obtain ⟨y24, hi25, h22⟩ := bs h22
          refine okL_guard 30 (Ty.ptr [(tL 1 lI y24)]) 28 (x15 && (((r7).length : Int) == 5)) rfl rfl hb19 rfl rfl (does_index (sz := 1) (f := lIs) (l := r7) (n := 4) y24 Tryd.underlying22 Tryd.sizeOf31 hi25 rfl rfl) ?_
          refine okL_guard 31 (tL 1 lI y24) 28 (x15 && (((r7).length : Int) == 5)) rfl rfl hb19 rfl rfl (does_load1 Tryd.isAgg31 rfl) ?_
          refine okL_guard 32 (tL 1 lI ([0, 1] : List Int)) 28 (x15 && (((r7).length : Int) == 5)) rfl rfl hb19 rfl rfl (does_buildSlice (f := lI) ([0, 1] : List Int) [(tI 0), (tI 1)] el31 rfl rfl rfl (fc [(tI 0)] 0 rfl (part_one (one_i _)) rfl rfl (fc [(tI 1)] 1 rfl (part_one (one_i _)) rfl rfl (fn_ rfl))) rfl (fun _ => rfl)) ?_
          obtain ⟨r26, hc27, h22⟩ := bs h22
          refine okL_guard 33 (tB r26) 28 (x15 && (((r7).length : Int) == 5)) rfl rfl hb19 rfl rfl (does_call0 (c_ref22_SameInts K y24 ([0, 1] : List Int) r26 hc27) rfl Tryd.call26 rfl) ?_
          refine okL_step 34 (tB r26) rfl rfl (does_pick_t (x15 && (((r7).length : Int) == 5)) rfl hb19 rfl) ?_
          refine okL_nil ?_
          exact okX_meet (I := _) r26 (smh h22) (cc rfl (cc rfl cn)) rfl
        · replace h22 := cf hb19 h22
          refine okL_skip 29 28 (x15 && (((r7).length : Int) == 5)) rfl rfl hb19 rfl rfl ?_
          refine okL_skip 30 28 (x15 && (((r7).length : Int) == 5)) rfl rfl hb19 rfl rfl ?_
          refine okL_skip 31 28 (x15 && (((r7).length : Int) == 5)) rfl rfl hb19 rfl rfl ?_
          refine okL_skip 32 28 (x15 && (((r7).length : Int) == 5)) rfl rfl hb19 rfl rfl ?_
          refine okL_skip 33 28 (x15 && (((r7).length : Int) == 5)) rfl rfl hb19 rfl rfl ?_
          refine okL_step 34 (tB false) rfl rfl (does_pick_f (x15 && (((r7).length : Int) == 5)) rfl hb19 rfl) ?_
          refine okL_nil ?_
          exact okX_meet (I := _) false (smh h22) (cc rfl (cc rfl cn)) rfl
      · intro x23 hx
        obtain rfl : x23 = z20 := hx.symm
        replace h := hz21
        change OkL _ _ _ _ [(0, (tB false)), (34, (tB x23))] (L)
        refine okL_step 35 (tB x23) rfl rfl (does_move rfl) ?_
        obtain ⟨z29, h31, hz30⟩ := bs h
        refine okL_meet (X := Bool) 5 (fun x => z29 = x) (fun x : Bool => [(0, (tB false)), (40, (tB x))]) (fun x : Bool => L) _ rfl ?_ ?_
        · refine okL_split x23 (fun hb28 => ?_) (fun hb28 => ?_)
          · replace h31 := ct hb28 h31
            obtain ⟨r33, hc34, h31⟩ := bs h31
            refine okL_guard 36 (Ty.agg [(tI r33.Params), (tI r33.Regs), (tL 5 Block.ty r33.Blocks)]) 35 x23 rfl rfl hb28 rfl rfl (does_call0 (c_law33_example r33 hc34) rfl Tryd.call23 rfl) ?_
            obtain ⟨r35, hc36, h31⟩ := bs h31
            refine okL_guard 37 (tL 1 lI r35) 35 x23 rfl rfl hb28 rfl rfl (does_call0 (c_liveness_AcrossCalls K r33 r35 hc36) rfl Tryd.call27 rfl) ?_
            refine okL_guard 38 (tI ((r35).length : Int)) 35 x23 rfl rfl hb28 rfl rfl (does_len (sz := 1) (f := lI) (l := r35) rfl Tryd.underlying31 rfl) ?_
            refine okL_guard 39 (tB (((r35).length : Int) == 0)) 35 x23 rfl rfl hb28 rfl rfl (does_eql rfl rfl) ?_
            refine okL_step 40 (tB (((r35).length : Int) == 0)) rfl rfl (does_pick_t x23 rfl hb28 rfl) ?_
            refine okL_nil ?_
            exact okX_meet (I := _) (((r35).length : Int) == 0) (smh h31) (cc rfl (cc rfl cn)) rfl
          · replace h31 := cf hb28 h31
            refine okL_skip 36 35 x23 rfl rfl hb28 rfl rfl ?_
            refine okL_skip 37 35 x23 rfl rfl hb28 rfl rfl ?_
            refine okL_skip 38 35 x23 rfl rfl hb28 rfl rfl ?_
            refine okL_skip 39 35 x23 rfl rfl hb28 rfl rfl ?_
            refine okL_step 40 (tB false) rfl rfl (does_pick_f x23 rfl hb28 rfl) ?_
            refine okL_nil ?_
            exact okX_meet (I := _) false (smh h31) (cc rfl (cc rfl cn)) rfl
        · intro x32 hx
          obtain rfl : x32 = z29 := hx.symm
          replace h := hz30
          change OkL _ _ _ _ [(0, (tB false)), (40, (tB x32))] (L)
          refine okL_step 0 (tB x32) rfl rfl (does_assign rfl) ?_
          refine okL_nil ?_
          refine okX_next ?_
          refine okC_ret ?_
          obtain rfl := (smh h).symm
          exact okX_ret1 () Tryd.results3 rfl rfl

def law33_LivenessLive_l2 (K : Nat) (r8 : Int) (y18 : Block) : Nat → (Bool × Int) → Option Bool
  | 0, _ => none
  | k + 1, s31 => (cnd (decide (s31.2 < ((y18.Instrs).length : Int))) (Option.bind (cnd s31.1 (some true) (Option.bind (idx y18.Instrs s31.2) (fun y39 => (Option.bind (ref32_Reads K y39) (fun r41 => (Option.bind (ref32_Contains K r41 r8) (fun r43 => (some r43)))))))) (fun x38 => (law33_LivenessLive_l2 K r8 y18 k (x38, (w64 (s31.2 + 1)))))) (some s31.1))

def law33_LivenessLive_l1 (K : Nat) (r5 : VFunc) (r8 : Int) : Nat → (Bool × Int) → Option Bool
  | 0, _ => none
  | k + 1, s15 => (cnd (decide (s15.2 < ((r5.Blocks).length : Int))) (Option.bind (idx r5.Blocks s15.2) (fun y18 => (Option.bind (law33_LivenessLive_l2 K r8 y18 K ((s15.1 || (((y18.End == 2) || (y18.End == 3)) && (y18.Reg == r8))), 0)) (fun s26 => (law33_LivenessLive_l1 K r5 r8 k (s26, (w64 (s15.2 + 1)))))))) (some s15.1))

def law33_LivenessLive_l3 (K : Nat) (r8 : Int) (r46 : (List (List Int)) × (List (List Int))) : Nat → (Bool × Int) → Option Bool
  | 0, _ => none
  | k + 1, s53 => (cnd ((decide (s53.2 < ((r46.1).length : Int))) && (decide (s53.2 < ((r46.2).length : Int)))) (Option.bind (cnd s53.1 (some true) (Option.bind (idx r46.1 s53.2) (fun y62 => (Option.bind (ref32_Contains K y62 r8) (fun r64 => (some r64)))))) (fun x61 => (Option.bind (cnd x61 (some true) (Option.bind (idx r46.2 s53.2) (fun y71 => (Option.bind (ref32_Contains K y71 r8) (fun r73 => (some r73)))))) (fun x70 => (law33_LivenessLive_l3 K r8 r46 k (x70, (w64 (s53.2 + 1)))))))) (some s53.1))

def law33_LivenessLive (K : Nat) (a0 : (List Int)) (a1 : Int) (a2 : Int) : Option Bool :=
  (Option.bind (subHi a0 (if 36 < ((a0).length : Int) then 36 else ((a0).length : Int))) (fun l1 => (Option.bind (keep_Pick a1 3) (fun r3 => (Option.bind (keep2_VFunc K l1 r3) (fun r5 => (Option.bind (keep_Pick a2 r5.Regs) (fun r8 => (Option.bind (law33_LivenessLive_l1 K r5 r8 K (false, 0)) (fun s10 => (Option.bind (liveness_Blocks K r5) (fun r46 => (Option.bind (law33_LivenessLive_l3 K r8 r46 K (false, 0)) (fun s48 => (Option.bind (cnd ((s10 || (!s48)) && (((r46.1).length : Int) == ((r5.Blocks).length : Int))) (Option.bind (law33_LivenessExamples K) (fun r83 => (some r83))) (some false)) (fun x82 => (some x82)))))))))))))))))

theorem c_law33_LivenessLive (K : Nat) (a0 : (List Int)) (a1 : Int) (a2 : Int) (r : Bool) (h : law33_LivenessLive K a0 a1 a2 = some r) : CallP Tryd.prog glob 7 [(tL 1 lI a0), (tI a1), (tI a2)] (tB r) := by
  refine call_of_code Tryd.func7 rfl Tryd.ntmps7 rfl (fun L w => ?_)
  change OkC _ _ _ [(0, (tL 1 lI a0)), (1, (tI a1)), (2, (tI a2))] (L)
  unfold law33_LivenessLive at h
  refine okC_seq ?_
  refine okC_region ?_
  refine okL_step 6 (tB false) rfl rfl (does_assign rfl) ?_
  refine okL_nil ?_
  refine okX_next ?_
  refine okC_seq ?_
  refine okC_cov [(0, (tL 1 lI a0)), (1, (tI a1)), (2, (tI a2))] (cc rfl (cc rfl (cc rfl cn))) ?_
  obtain ⟨l1, hs2, h⟩ := bs h
  obtain ⟨r3, hc4, h⟩ := bs h
  obtain ⟨r5, hc6, h⟩ := bs h
  refine okC_draw 9 [some (16, (tL 1 lI a0)), some (17, (tL 1 lI a0)), some (18, (tI ((a0).length : Int))), some (19, (tI (if 36 < ((a0).length : Int) then 36 else ((a0).length : Int)))), some (20, (tL 1 lI l1)), some (21, (tI a1)), some (22, (tI r3)), some (23, (Ty.agg [(tI r5.Params), (tI r5.Regs), (tL 5 Block.ty r5.Blocks)])), none] ⟨([] : List Item), ([] : List Item), []⟩ [8] mixed rfl rfl (by kernel_rfl) rfl (by kernel_rfl) rfl rfl rfl (fun _ h => nomatch h) (fun _ h => nomatch h) rfl (by kernel_rfl) (.inr ⟨by kernel_rfl, by kernel_rfl⟩) (by kernel_rfl) (by kernel_rfl) (dc (draw_plain rfl (does_move rfl)) (dc (draw_plain rfl (does_move rfl)) (dc (draw_plain rfl (does_len (sz := 1) (f := lI) (l := a0) rfl Tryd.underlying31 rfl)) (dc (draw_plain rfl (does_min rfl rfl)) (dc (draw_plain rfl (does_subHi (sz := 1) (f := lI) (l := a0) l1 hs2 Tryd.underlying31 Tryd.sizeOf3 rfl rfl)) (dc (draw_plain rfl (does_move rfl)) (dc (draw_plain rfl (does_call0 (c_keep_Pick a1 3 r3 hc4) rfl Tryd.call29 rfl)) (dc (draw_plain rfl (does_call0 (c_keep2_VFunc K l1 r3 r5 hc6) rfl Tryd.call28 rfl)) (ds (dn)))))))))) ?_
  refine ch_step [8] rfl (ap_cons (ch_at _ rfl rfl (doesO_alloc [(tI 0), (tI 0), (Ty.val (.slice none 0 0))] Tryd.zeroValue27 (part_of (sub_agg [(.int .i64 0), (.int .i64 0), (.slice none 0 0)] rfl) (part_agg _)) (fun g7 => ?_))) (ap_nil))
  refine ⟨⟨(fun _ h => nomatch h), .inr (fun _ h => nomatch h)⟩, ?_⟩
  refine ch_end ?_
  change OkL _ _ _ _ [(16, (tL 1 lI a0)), (17, (tL 1 lI a0)), (18, (tI ((a0).length : Int))), (19, (tI (if 36 < ((a0).length : Int) then 36 else ((a0).length : Int)))), (20, (tL 1 lI l1)), (21, (tI a1)), (22, (tI r3)), (23, (Ty.agg [(tI r5.Params), (tI r5.Regs), (tL 5 Block.ty r5.Blocks)])), (7, (pAt g7 0)), (0, (tL 1 lI a0)), (1, (tI a1)), (2, (tI a2))] (Item.blk g7 27 [(tI 0), (tI 0), (Ty.val (.slice none 0 0))] :: L)
  refine okL_stepU rfl (doesO_storeB (ps := [(tI r5.Params), (tI r5.Regs), (tL 5 Block.ty r5.Blocks)]) 0 [(tI r5.Params), (tI r5.Regs), (tL 5 Block.ty r5.Blocks)] (Item.blk g7 27 [(tI r5.Params), (tI r5.Regs), (tL 5 Block.ty r5.Blocks)] :: L) rfl rfl (part_agg _) Tryd.sizeOf27 rfl rfl rfl rfl ?_)
  refine okL_nil ?_
  refine okX_next ?_
  refine okC_seq ?_
  refine okC_region ?_
  refine okL_step 24 (tI a2) rfl rfl (does_move rfl) ?_
  refine okL_step 25 (pAt g7 1) rfl rfl (does_fieldAddrP 1 Tryd.underlying27 rfl Tryd.sizeOf3 rfl rfl) ?_
  refine okL_step 26 (tI r5.Regs) rfl rfl (does_loadB1 Tryd.isAgg3 rfl 0 rfl rfl) ?_
  obtain ⟨r8, hc9, h⟩ := bs h
  refine okL_step 27 (tI r8) rfl rfl (does_call0 (c_keep_Pick a2 r5.Regs r8 hc9) rfl Tryd.call29 rfl) ?_
  refine okL_step 2 (tI r8) rfl rfl (does_assign rfl) ?_
  refine okL_nil ?_
  refine okX_next ?_
  refine okC_seq ?_
  refine okC_region ?_
  refine okL_step 8 (tB false) rfl rfl (does_assign rfl) ?_
  refine okL_nil ?_
  refine okX_next ?_
  refine okC_seq ?_
  refine okC_seq ?_
  refine okC_region ?_
  refine okL_step 9 (tI 0) rfl rfl (does_assign rfl) ?_
  refine okL_nil ?_
  refine okX_next ?_
  obtain ⟨z12, h14, hz13⟩ := bs h
  refine okC_meetE (X := Bool) (fun x => z12 = x) (fun x : Bool => [(2, (tI r8)), (7, (pAt g7 0)), (8, (tB x))]) (fun x : Bool => Item.blk g7 27 [(tI r5.Params), (tI r5.Regs), (tL 5 Block.ty r5.Blocks)] :: L) ?_ ?_
  · refine okC_block ?_
    refine okC_loop (X := (Bool × Int)) (fun k x => law33_LivenessLive_l1 K r5 r8 k x = some z12) (fun x : (Bool × Int) => [(2, (tI r8)), (7, (pAt g7 0)), (8, (tB x.1)), (9, (tI x.2))]) (fun x : (Bool × Int) => Item.blk g7 27 [(tI r5.Params), (tI r5.Regs), (tL 5 Block.ty r5.Blocks)] :: L) K (false, 0) h14 (cc rfl (cc rfl (cc rfl (cc rfl cn)))) rfl (fun k s15 hI => ?_)
    change OkC _ _ _ [(2, (tI r8)), (7, (pAt g7 0)), (8, (tB s15.1)), (9, (tI s15.2))] (Item.blk g7 27 [(tI r5.Params), (tI r5.Regs), (tL 5 Block.ty r5.Blocks)] :: L)
    cases k with
    | zero => exact (nz hI).elim
    | succ k =>
      have h : law33_LivenessLive_l1 K r5 r8 (k + 1) s15 = some z12 := hI
      rw [law33_LivenessLive_l1.eq_2] at h
      refine okC_seq ?_
      refine okC_seq ?_
      refine okC_region ?_
      refine okL_step 28 (tI s15.2) rfl rfl (does_move rfl) ?_
      refine okL_step 29 (pAt g7 2) rfl rfl (does_fieldAddrP 2 Tryd.underlying27 rfl Tryd.sizeOf25 rfl rfl) ?_
      refine okL_step 30 (tL 5 Block.ty r5.Blocks) rfl rfl (does_loadB1 Tryd.isAgg25 rfl 0 rfl rfl) ?_
      refine okL_step 31 (tI ((r5.Blocks).length : Int)) rfl rfl (does_len (sz := 5) (f := Block.ty) (l := r5.Blocks) rfl Tryd.underlying25 rfl) ?_
      refine okL_step 32 (tB (decide (s15.2 < ((r5.Blocks).length : Int)))) rfl rfl (does_lss rfl rfl) ?_
      refine okL_nil ?_
      refine okX_next ?_
      refine okC_cond (b := (decide (s15.2 < ((r5.Blocks).length : Int)))) rfl (fun hb17 => ?_) (fun hb17 => ?_)
      · replace h := ct hb17 h
        refine okC_skip ?_
        refine okX_next ?_
        refine okC_seq ?_
        refine okC_block ?_
        refine okC_seq ?_
        refine okC_region ?_
        refine okL_step 35 (pAt g7 2) rfl rfl (does_fieldAddrP 2 Tryd.underlying27 rfl Tryd.sizeOf25 rfl rfl) ?_
        refine okL_step 36 (tL 5 Block.ty r5.Blocks) rfl rfl (does_loadB1 Tryd.isAgg25 rfl 0 rfl rfl) ?_
        refine okL_step 37 (tI s15.2) rfl rfl (does_move rfl) ?_
        obtain ⟨y18, hi19, h⟩ := bs h
        refine okL_step 38 (Ty.ptr [(tL 6 VInstr.ty y18.Instrs), (tI y18.End), (tI y18.Reg), (tI y18.Target), (tI y18.Else)]) rfl rfl (does_index (sz := 5) (f := Block.ty) (l := r5.Blocks) (n := s15.2) y18 Tryd.underlying25 Tryd.sizeOf43 hi19 rfl rfl) ?_
        refine okL_step 39 (Ty.agg [(tL 6 VInstr.ty y18.Instrs), (tI y18.End), (tI y18.Reg), (tI y18.Target), (tI y18.Else)]) rfl rfl (does_loadA [(tL 6 VInstr.ty y18.Instrs), (tI y18.End), (tI y18.Reg), (tI y18.Target), (tI y18.Else)] Tryd.isAgg43 Tryd.sizeOf43 rfl rfl rfl) ?_
        refine okL_stepO 10 rfl rfl (doesO_alloc [(Ty.val (.slice none 0 0)), (tI 0), (tI 0), (tI 0), (tI 0)] Tryd.zeroValue43 (part_of (sub_agg [(.slice none 0 0), (.int .i64 0), (.int .i64 0), (.int .i64 0), (.int .i64 0)] rfl) (part_agg _)) (fun g20 => ?_))
        refine okL_stepU rfl (doesO_storeB (ps := [(tL 6 VInstr.ty y18.Instrs), (tI y18.End), (tI y18.Reg), (tI y18.Target), (tI y18.Else)]) 0 [(tL 6 VInstr.ty y18.Instrs), (tI y18.End), (tI y18.Reg), (tI y18.Target), (tI y18.Else)] (Item.blk g20 43 [(tL 6 VInstr.ty y18.Instrs), (tI y18.End), (tI y18.Reg), (tI y18.Target), (tI y18.Else)] :: Item.blk g7 27 [(tI r5.Params), (tI r5.Regs), (tL 5 Block.ty r5.Blocks)] :: L) rfl rfl (part_agg _) Tryd.sizeOf43 rfl rfl rfl rfl ?_)
        refine okL_nil ?_
        refine okX_next ?_
        refine okC_seq ?_
        refine okC_region ?_
        refine okL_step 40 (tB s15.1) rfl rfl (does_move rfl) ?_
        refine okL_step 41 (tB s15.1) rfl rfl (does_move rfl) ?_
        refine okL_meet (X := Bool) 15 (fun x => x = (s15.1 || (((y18.End == 2) || (y18.End == 3)) && (y18.Reg == r8)))) (fun x : Bool => [(2, (tI r8)), (7, (pAt g7 0)), (8, (tB s15.1)), (9, (tI s15.2)), (10, (pAt g20 0)), (56, (tB x))]) (fun x : Bool => Item.blk g20 43 [(tL 6 VInstr.ty y18.Instrs), (tI y18.End), (tI y18.Reg), (tI y18.Target), (tI y18.Else)] :: Item.blk g7 27 [(tI r5.Params), (tI r5.Regs), (tL 5 Block.ty r5.Blocks)] :: L) _ rfl ?_ ?_
        · refine okL_split s15.1 (fun hb21 => ?_) (fun hb21 => ?_)
          · refine okL_skip 42 41 s15.1 rfl rfl hb21 rfl rfl ?_
            refine okL_skip 43 41 s15.1 rfl rfl hb21 rfl rfl ?_
            refine okL_skip 44 41 s15.1 rfl rfl hb21 rfl rfl ?_
            refine okL_skip 45 41 s15.1 rfl rfl hb21 rfl rfl ?_
            refine okL_skipU 46 45 rfl rfl rfl rfl ?_
            refine okL_skipU 47 45 rfl rfl rfl rfl ?_
            refine okL_skipU 48 45 rfl rfl rfl rfl ?_
            refine okL_skip 49 41 s15.1 rfl rfl hb21 rfl rfl ?_
            refine okL_skip 50 41 s15.1 rfl rfl hb21 rfl rfl ?_
            refine okL_skipU 51 50 rfl rfl rfl rfl ?_
            refine okL_skipU 52 50 rfl rfl rfl rfl ?_
            refine okL_skipU 53 50 rfl rfl rfl rfl ?_
            refine okL_skipU 54 50 rfl rfl rfl rfl ?_
            refine okL_skip 55 41 s15.1 rfl rfl hb21 rfl rfl ?_
            refine okL_step 56 (tB true) rfl rfl (does_pick_t s15.1 rfl hb21 rfl) ?_
            refine okL_nil ?_
            exact okX_meet (I := _) true (or_t hb21) (cc rfl (cc rfl (cc rfl (cc rfl (cc rfl (cc rfl cn)))))) rfl
          · refine okL_guard 42 (pAt g20 1) 41 s15.1 rfl rfl hb21 rfl rfl (does_fieldAddrP 1 Tryd.underlying43 rfl Tryd.sizeOf3 rfl rfl) ?_
            refine okL_guard 43 (tI y18.End) 41 s15.1 rfl rfl hb21 rfl rfl (does_loadB1 Tryd.isAgg3 rfl 0 rfl rfl) ?_
            refine okL_guard 44 (tB (y18.End == 2)) 41 s15.1 rfl rfl hb21 rfl rfl (does_eql rfl rfl) ?_
            refine okL_guard 45 (tB (y18.End == 2)) 41 s15.1 rfl rfl hb21 rfl rfl (does_move rfl) ?_
            refine okL_meet (X := Bool) 4 (fun x => x = ((y18.End == 2) || (y18.End == 3))) (fun x : Bool => [(2, (tI r8)), (7, (pAt g7 0)), (8, (tB s15.1)), (9, (tI s15.2)), (10, (pAt g20 0)), (41, (tB s15.1)), (42, (pAt g20 1)), (43, (tI y18.End)), (44, (tB (y18.End == 2))), (45, (tB (y18.End == 2))), (49, (tB x))]) (fun x : Bool => Item.blk g20 43 [(tL 6 VInstr.ty y18.Instrs), (tI y18.End), (tI y18.Reg), (tI y18.Target), (tI y18.Else)] :: Item.blk g7 27 [(tI r5.Params), (tI r5.Regs), (tL 5 Block.ty r5.Blocks)] :: L) _ rfl ?_ ?_
            · refine okL_split (y18.End == 2) (fun hb22 => ?_) (fun hb22 => ?_)
              · refine okL_skip 46 45 (y18.End == 2) rfl rfl hb22 rfl rfl ?_
                refine okL_skip 47 45 (y18.End == 2) rfl rfl hb22 rfl rfl ?_
                refine okL_skip 48 45 (y18.End == 2) rfl rfl hb22 rfl rfl ?_
                refine okL_guard 49 (tB true) 41 s15.1 rfl rfl hb21 rfl rfl (does_pick_t (y18.End == 2) rfl hb22 rfl) ?_
                refine okL_nil ?_
                exact okX_meet (I := _) true (or_t hb22) (cc rfl (cc rfl (cc rfl (cc rfl (cc rfl (cc rfl (cc rfl (cc rfl (cc rfl (cc rfl (cc rfl cn))))))))))) rfl
              · refine okL_guard 46 (pAt g20 1) 45 (y18.End == 2) rfl rfl hb22 rfl rfl (does_fieldAddrP 1 Tryd.underlying43 rfl Tryd.sizeOf3 rfl rfl) ?_
                refine okL_guard 47 (tI y18.End) 45 (y18.End == 2) rfl rfl hb22 rfl rfl (does_loadB1 Tryd.isAgg3 rfl 0 rfl rfl) ?_
                refine okL_guard 48 (tB (y18.End == 3)) 45 (y18.End == 2) rfl rfl hb22 rfl rfl (does_eql rfl rfl) ?_
                refine okL_guard 49 (tB (y18.End == 3)) 41 s15.1 rfl rfl hb21 rfl rfl (does_pick_f (y18.End == 2) rfl hb22 rfl) ?_
                refine okL_nil ?_
                exact okX_meet (I := _) (y18.End == 3) (or_f hb22) (cc rfl (cc rfl (cc rfl (cc rfl (cc rfl (cc rfl (cc rfl (cc rfl (cc rfl (cc rfl (cc rfl cn))))))))))) rfl
            · intro x25 hx
              subst hx
              change OkL _ _ _ _ [(2, (tI r8)), (7, (pAt g7 0)), (8, (tB s15.1)), (9, (tI s15.2)), (10, (pAt g20 0)), (41, (tB s15.1)), (42, (pAt g20 1)), (43, (tI y18.End)), (44, (tB (y18.End == 2))), (45, (tB (y18.End == 2))), (49, (tB ((y18.End == 2) || (y18.End == 3))))] (Item.blk g20 43 [(tL 6 VInstr.ty y18.Instrs), (tI y18.End), (tI y18.Reg), (tI y18.Target), (tI y18.Else)] :: Item.blk g7 27 [(tI r5.Params), (tI r5.Regs), (tL 5 Block.ty r5.Blocks)] :: L)
              refine okL_guard 50 (tB ((y18.End == 2) || (y18.End == 3))) 41 s15.1 rfl rfl hb21 rfl rfl (does_move rfl) ?_
              refine okL_meet (X := Bool) 5 (fun x => x = (((y18.End == 2) || (y18.End == 3)) && (y18.Reg == r8))) (fun x : Bool => [(2, (tI r8)), (7, (pAt g7 0)), (8, (tB s15.1)), (9, (tI s15.2)), (10, (pAt g20 0)), (41, (tB s15.1)), (42, (pAt g20 1)), (43, (tI y18.End)), (44, (tB (y18.End == 2))), (45, (tB (y18.End == 2))), (49, (tB ((y18.End == 2) || (y18.End == 3)))), (50, (tB ((y18.End == 2) || (y18.End == 3)))), (55, (tB x))]) (fun x : Bool => Item.blk g20 43 [(tL 6 VInstr.ty y18.Instrs), (tI y18.End), (tI y18.Reg), (tI y18.Target), (tI y18.Else)] :: Item.blk g7 27 [(tI r5.Params), (tI r5.Regs), (tL 5 Block.ty r5.Blocks)] :: L) _ rfl ?_ ?_
              · refine okL_split ((y18.End == 2) || (y18.End == 3)) (fun hb23 => ?_) (fun hb23 => ?_)
                · refine okL_guard 51 (pAt g20 2) 50 ((y18.End == 2) || (y18.End == 3)) rfl rfl hb23 rfl rfl (does_fieldAddrP 2 Tryd.underlying43 rfl Tryd.sizeOf3 rfl rfl) ?_
                  refine okL_guard 52 (tI y18.Reg) 50 ((y18.End == 2) || (y18.End == 3)) rfl rfl hb23 rfl rfl (does_loadB1 Tryd.isAgg3 rfl 0 rfl rfl) ?_
                  refine okL_guard 53 (tI r8) 50 ((y18.End == 2) || (y18.End == 3)) rfl rfl hb23 rfl rfl (does_move rfl) ?_
                  refine okL_guard 54 (tB (y18.Reg == r8)) 50 ((y18.End == 2) || (y18.End == 3)) rfl rfl hb23 rfl rfl (does_eql rfl rfl) ?_
                  refine okL_guard 55 (tB (y18.Reg == r8)) 41 s15.1 rfl rfl hb21 rfl rfl (does_pick_t ((y18.End == 2) || (y18.End == 3)) rfl hb23 rfl) ?_
                  refine okL_nil ?_
                  exact okX_meet (I := _) (y18.Reg == r8) (and_t hb23) (cc rfl (cc rfl (cc rfl (cc rfl (cc rfl (cc rfl (cc rfl (cc rfl (cc rfl (cc rfl (cc rfl (cc rfl (cc rfl cn))))))))))))) rfl
                · refine okL_skip 51 50 ((y18.End == 2) || (y18.End == 3)) rfl rfl hb23 rfl rfl ?_
                  refine okL_skip 52 50 ((y18.End == 2) || (y18.End == 3)) rfl rfl hb23 rfl rfl ?_
                  refine okL_skip 53 50 ((y18.End == 2) || (y18.End == 3)) rfl rfl hb23 rfl rfl ?_
                  refine okL_skip 54 50 ((y18.End == 2) || (y18.End == 3)) rfl rfl hb23 rfl rfl ?_
                  refine okL_guard 55 (tB false) 41 s15.1 rfl rfl hb21 rfl rfl (does_pick_f ((y18.End == 2) || (y18.End == 3)) rfl hb23 rfl) ?_
                  refine okL_nil ?_
                  exact okX_meet (I := _) false (and_f hb23) (cc rfl (cc rfl (cc rfl (cc rfl (cc rfl (cc rfl (cc rfl (cc rfl (cc rfl (cc rfl (cc rfl (cc rfl (cc rfl cn))))))))))))) rfl
              · intro x24 hx
                subst hx
                change OkL _ _ _ _ [(2, (tI r8)), (7, (pAt g7 0)), (8, (tB s15.1)), (9, (tI s15.2)), (10, (pAt g20 0)), (41, (tB s15.1)), (42, (pAt g20 1)), (43, (tI y18.End)), (44, (tB (y18.End == 2))), (45, (tB (y18.End == 2))), (49, (tB ((y18.End == 2) || (y18.End == 3)))), (50, (tB ((y18.End == 2) || (y18.End == 3)))), (55, (tB (((y18.End == 2) || (y18.End == 3)) && (y18.Reg == r8))))] (Item.blk g20 43 [(tL 6 VInstr.ty y18.Instrs), (tI y18.End), (tI y18.Reg), (tI y18.Target), (tI y18.Else)] :: Item.blk g7 27 [(tI r5.Params), (tI r5.Regs), (tL 5 Block.ty r5.Blocks)] :: L)
                refine okL_step 56 (tB (((y18.End == 2) || (y18.End == 3)) && (y18.Reg == r8))) rfl rfl (does_pick_f s15.1 rfl hb21 rfl) ?_
                refine okL_nil ?_
                exact okX_meet (I := _) (((y18.End == 2) || (y18.End == 3)) && (y18.Reg == r8)) (or_f hb21) (cc rfl (cc rfl (cc rfl (cc rfl (cc rfl (cc rfl cn)))))) rfl
        · intro x45 hx
          subst hx
          change OkL _ _ _ _ [(2, (tI r8)), (7, (pAt g7 0)), (8, (tB s15.1)), (9, (tI s15.2)), (10, (pAt g20 0)), (56, (tB (s15.1 || (((y18.End == 2) || (y18.End == 3)) && (y18.Reg == r8)))))] (Item.blk g20 43 [(tL 6 VInstr.ty y18.Instrs), (tI y18.End), (tI y18.Reg), (tI y18.Target), (tI y18.Else)] :: Item.blk g7 27 [(tI r5.Params), (tI r5.Regs), (tL 5 Block.ty r5.Blocks)] :: L)
          refine okL_step 8 (tB (s15.1 || (((y18.End == 2) || (y18.End == 3)) && (y18.Reg == r8)))) rfl rfl (does_assign rfl) ?_
          refine okL_nil ?_
          refine okX_next ?_
          refine okC_seq ?_
          refine okC_region ?_
          refine okL_step 11 (tI 0) rfl rfl (does_assign rfl) ?_
          refine okL_nil ?_
          refine okX_next ?_
          obtain ⟨z28, h30, hz29⟩ := bs h
          refine okC_meetE (X := Bool) (fun x => z28 = x) (fun x : Bool => [(2, (tI r8)), (7, (pAt g7 0)), (8, (tB x)), (9, (tI s15.2))]) (fun x : Bool => Item.blk g20 43 [(tL 6 VInstr.ty y18.Instrs), (tI y18.End), (tI y18.Reg), (tI y18.Target), (tI y18.Else)] :: Item.blk g7 27 [(tI r5.Params), (tI r5.Regs), (tL 5 Block.ty r5.Blocks)] :: L) ?_ ?_
          · refine okC_block ?_
            refine okC_loop (X := (Bool × Int)) (fun k x => law33_LivenessLive_l2 K r8 y18 k x = some z28) (fun x : (Bool × Int) => [(2, (tI r8)), (7, (pAt g7 0)), (8, (tB x.1)), (9, (tI s15.2)), (10, (pAt g20 0)), (11, (tI x.2))]) (fun x : (Bool × Int) => Item.blk g20 43 [(tL 6 VInstr.ty y18.Instrs), (tI y18.End), (tI y18.Reg), (tI y18.Target), (tI y18.Else)] :: Item.blk g7 27 [(tI r5.Params), (tI r5.Regs), (tL 5 Block.ty r5.Blocks)] :: L) K ((s15.1 || (((y18.End == 2) || (y18.End == 3)) && (y18.Reg == r8))), 0) h30 (cc rfl (cc rfl (cc rfl (cc rfl (cc rfl (cc rfl cn)))))) rfl (fun k s31 hI => ?_)
            change OkC _ _ _ [(2, (tI r8)), (7, (pAt g7 0)), (8, (tB s31.1)), (9, (tI s15.2)), (10, (pAt g20 0)), (11, (tI s31.2))] (Item.blk g20 43 [(tL 6 VInstr.ty y18.Instrs), (tI y18.End), (tI y18.Reg), (tI y18.Target), (tI y18.Else)] :: Item.blk g7 27 [(tI r5.Params), (tI r5.Regs), (tL 5 Block.ty r5.Blocks)] :: L)
            cases k with
            | zero => exact (nz hI).elim
            | succ k =>
              have h : law33_LivenessLive_l2 K r8 y18 (k + 1) s31 = some z28 := hI
              rw [law33_LivenessLive_l2.eq_2] at h
              refine okC_seq ?_
              refine okC_seq ?_
              refine okC_region ?_
              refine okL_step 57 (tI s31.2) rfl rfl (does_move rfl) ?_
              refine okL_step 58 (pAt g20 0) rfl rfl (does_fieldAddrP 0 Tryd.underlying43 rfl Tryd.sizeOf41 rfl rfl) ?_
              refine okL_step 59 (tL 6 VInstr.ty y18.Instrs) rfl rfl (does_loadB1 Tryd.isAgg41 rfl 0 rfl rfl) ?_
              refine okL_step 60 (tI ((y18.Instrs).length : Int)) rfl rfl (does_len (sz := 6) (f := VInstr.ty) (l := y18.Instrs) rfl Tryd.underlying41 rfl) ?_
              refine okL_step 61 (tB (decide (s31.2 < ((y18.Instrs).length : Int)))) rfl rfl (does_lss rfl rfl) ?_
              refine okL_nil ?_
              refine okX_next ?_
              refine okC_cond (b := (decide (s31.2 < ((y18.Instrs).length : Int)))) rfl (fun hb33 => ?_) (fun hb33 => ?_)
              · replace h := ct hb33 h
                refine okC_skip ?_
                refine okX_next ?_
                refine okC_seq ?_
                refine okC_block ?_
                refine okC_region ?_
                refine okL_step 64 (tB s31.1) rfl rfl (does_move rfl) ?_
                refine okL_step 65 (tB s31.1) rfl rfl (does_move rfl) ?_
                obtain ⟨z35, h37, hz36⟩ := bs h
                refine okL_meet (X := Bool) 9 (fun x => z35 = x) (fun x : Bool => [(2, (tI r8)), (7, (pAt g7 0)), (8, (tB s31.1)), (9, (tI s15.2)), (10, (pAt g20 0)), (11, (tI s31.2)), (74, (tB x))]) (fun x : Bool => Item.blk g20 43 [(tL 6 VInstr.ty y18.Instrs), (tI y18.End), (tI y18.Reg), (tI y18.Target), (tI y18.Else)] :: Item.blk g7 27 [(tI r5.Params), (tI r5.Regs), (tL 5 Block.ty r5.Blocks)] :: L) _ rfl ?_ ?_
                · refine okL_split s31.1 (fun hb34 => ?_) (fun hb34 => ?_)
                  · replace h37 := ct hb34 h37
                    refine okL_skip 66 65 s31.1 rfl rfl hb34 rfl rfl ?_
                    refine okL_skip 67 65 s31.1 rfl rfl hb34 rfl rfl ?_
                    refine okL_skip 68 65 s31.1 rfl rfl hb34 rfl rfl ?_
                    refine okL_skip 69 65 s31.1 rfl rfl hb34 rfl rfl ?_
                    refine okL_skip 70 65 s31.1 rfl rfl hb34 rfl rfl ?_
                    refine okL_skip 71 65 s31.1 rfl rfl hb34 rfl rfl ?_
                    refine okL_skip 72 65 s31.1 rfl rfl hb34 rfl rfl ?_
                    refine okL_skip 73 65 s31.1 rfl rfl hb34 rfl rfl ?_
                    refine okL_step 74 (tB true) rfl rfl (does_pick_t s31.1 rfl hb34 rfl) ?_
                    refine okL_nil ?_
                    exact okX_meet (I := _) true (smh h37) (cc rfl (cc rfl (cc rfl (cc rfl (cc rfl (cc rfl (cc rfl cn))))))) rfl
                  · replace h37 := cf hb34 h37
                    refine okL_guard 66 (pAt g20 0) 65 s31.1 rfl rfl hb34 rfl rfl (does_fieldAddrP 0 Tryd.underlying43 rfl Tryd.sizeOf41 rfl rfl) ?_
                    refine okL_guard 67 (tL 6 VInstr.ty y18.Instrs) 65 s31.1 rfl rfl hb34 rfl rfl (does_loadB1 Tryd.isAgg41 rfl 0 rfl rfl) ?_
                    refine okL_guard 68 (tI s31.2) 65 s31.1 rfl rfl hb34 rfl rfl (does_move rfl) ?_
                    obtain ⟨y39, hi40, h37⟩ := bs h37
                    refine okL_guard 69 (Ty.ptr [(tI y39.Instr.Op), (tI y39.Instr.A), (tI y39.Instr.B), (tI y39.Instr.C), (tI y39.Instr.N), (tL 1 lI y39.Args)]) 65 s31.1 rfl rfl hb34 rfl rfl (does_index (sz := 6) (f := VInstr.ty) (l := y18.Instrs) (n := s31.2) y39 Tryd.underlying41 Tryd.sizeOf48 hi40 rfl rfl) ?_
                    refine okL_guard 70 (Ty.agg [(tI y39.Instr.Op), (tI y39.Instr.A), (tI y39.Instr.B), (tI y39.Instr.C), (tI y39.Instr.N), (tL 1 lI y39.Args)]) 65 s31.1 rfl rfl hb34 rfl rfl (does_loadA [(tI y39.Instr.Op), (tI y39.Instr.A), (tI y39.Instr.B), (tI y39.Instr.C), (tI y39.Instr.N), (tL 1 lI y39.Args)] Tryd.isAgg48 Tryd.sizeOf48 rfl rfl rfl) ?_
                    obtain ⟨r41, hc42, h37⟩ := bs h37
                    refine okL_guard 71 (tL 1 lI r41) 65 s31.1 rfl rfl hb34 rfl rfl (does_call0 (c_ref32_Reads K y39 r41 hc42) rfl Tryd.call38 rfl) ?_
                    refine okL_guard 72 (tI r8) 65 s31.1 rfl rfl hb34 rfl rfl (does_move rfl) ?_
                    obtain ⟨r43, hc44, h37⟩ := bs h37
                    refine okL_guard 73 (tB r43) 65 s31.1 rfl rfl hb34 rfl rfl (does_call0 (c_ref32_Contains K r41 r8 r43 hc44) rfl Tryd.call40 rfl) ?_
                    refine okL_step 74 (tB r43) rfl rfl (does_pick_f s31.1 rfl hb34 rfl) ?_
                    refine okL_nil ?_
                    exact okX_meet (I := _) r43 (smh h37) (cc rfl (cc rfl (cc rfl (cc rfl (cc rfl (cc rfl (cc rfl cn))))))) rfl
                · intro x38 hx
                  obtain rfl : x38 = z35 := hx.symm
                  replace h := hz36
                  change OkL _ _ _ _ [(2, (tI r8)), (7, (pAt g7 0)), (8, (tB s31.1)), (9, (tI s15.2)), (10, (pAt g20 0)), (11, (tI s31.2)), (74, (tB x38))] (Item.blk g20 43 [(tL 6 VInstr.ty y18.Instrs), (tI y18.End), (tI y18.Reg), (tI y18.Target), (tI y18.Else)] :: Item.blk g7 27 [(tI r5.Params), (tI r5.Regs), (tL 5 Block.ty r5.Blocks)] :: L)
                  refine okL_step 8 (tB x38) rfl rfl (does_assign rfl) ?_
                  refine okL_nil ?_
                  refine okX_block_normal ?_
                  refine okX_next ?_
                  refine okC_region ?_
                  refine okL_step 62 (tI s31.2) rfl rfl (does_move rfl) ?_
                  refine okL_step 63 (tI (w64 (s31.2 + 1))) rfl rfl (does_add rfl rfl) ?_
                  refine okL_step 11 (tI (w64 (s31.2 + 1))) rfl rfl (does_assign rfl) ?_
                  refine okL_nil ?_
                  exact okX_again k (Nat.lt_succ_self k) (x38, (w64 (s31.2 + 1))) h (cc rfl (cc rfl (cc rfl (cc rfl (cc rfl (cc rfl cn)))))) rfl
              · replace h := cf hb33 h
                refine okC_exit ?_
                refine okX_then_exit ?_
                refine okX_again_exit ?_
                refine okX_block_hit ?_
                exact okX_meet (I := _) s31.1 (smh h) (cc rfl (cc rfl (cc rfl (cc rfl cn)))) rfl
          · intro s26 hx
            change OkX _ _ _ [(2, (tI r8)), (7, (pAt g7 0)), (8, (tB s26)), (9, (tI s15.2))] (Item.blk g20 43 [(tL 6 VInstr.ty y18.Instrs), (tI y18.End), (tI y18.Reg), (tI y18.Target), (tI y18.Else)] :: Item.blk g7 27 [(tI r5.Params), (tI r5.Regs), (tL 5 Block.ty r5.Blocks)] :: L)
            obtain rfl : s26 = z28 := hx.symm
            replace h := hz29
            refine okX_block_normal ?_
            refine okX_next ?_
            refine okC_region ?_
            refine okL_step 33 (tI s15.2) rfl rfl (does_move rfl) ?_
            refine okL_step 34 (tI (w64 (s15.2 + 1))) rfl rfl (does_add rfl rfl) ?_
            refine okL_step 9 (tI (w64 (s15.2 + 1))) rfl rfl (does_assign rfl) ?_
            refine okL_nil ?_
            refine okX_items [Item.blk g20 43 [(tL 6 VInstr.ty y18.Instrs), (tI y18.End), (tI y18.Reg), (tI y18.Target), (tI y18.Else)]] (Item.blk g7 27 [(tI r5.Params), (tI r5.Regs), (tL 5 Block.ty r5.Blocks)] :: L) (pm 0 rfl (pm 0 rfl (pr _))) ?_
            exact okX_again k (Nat.lt_succ_self k) (s26, (w64 (s15.2 + 1))) h (cc rfl (cc rfl (cc rfl (cc rfl cn)))) rfl
      · replace h := cf hb17 h
        refine okC_exit ?_
        refine okX_then_exit ?_
        refine okX_again_exit ?_
        refine okX_block_hit ?_
        exact okX_meet (I := _) s15.1 (smh h) (cc rfl (cc rfl (cc rfl cn))) rfl
  · intro s10 hx
    change OkX _ _ _ [(2, (tI r8)), (7, (pAt g7 0)), (8, (tB s10))] (Item.blk g7 27 [(tI r5.Params), (tI r5.Regs), (tL 5 Block.ty r5.Blocks)] :: L)
    obtain rfl : s10 = z12 := hx.symm
    replace h := hz13
    refine okX_next ?_
    refine okC_seq ?_
    refine okC_region ?_
    refine okL_step 76 (Ty.agg [(tI r5.Params), (tI r5.Regs), (tL 5 Block.ty r5.Blocks)]) rfl rfl (does_loadBA [(tI r5.Params), (tI r5.Regs), (tL 5 Block.ty r5.Blocks)] Tryd.isAgg27 Tryd.sizeOf27 rfl 0 rfl rfl rfl) ?_
    obtain ⟨r46, hc47, h⟩ := bs h
    refine okL_step 77 (Ty.tup [(tL 1 lIs r46.1), (tL 1 lIs r46.2)]) rfl rfl (does_call0 (c_liveness_Blocks K r5 r46 hc47) rfl Tryd.call22 rfl) ?_
    refine okL_step 75 (Ty.tup [(tL 1 lIs r46.1), (tL 1 lIs r46.2)]) rfl rfl (does_move rfl) ?_
    refine okL_step 78 (tL 1 lIs r46.1) rfl rfl (does_extract rfl rfl) ?_
    refine okL_step 79 (tL 1 lIs r46.2) rfl rfl (does_extract rfl rfl) ?_
    refine okL_step 12 (tL 1 lIs r46.1) rfl rfl (does_assign rfl) ?_
    refine okL_step 13 (tL 1 lIs r46.2) rfl rfl (does_assign rfl) ?_
    refine okL_nil ?_
    refine okX_next ?_
    refine okC_seq ?_
    refine okC_region ?_
    refine okL_step 14 (tB false) rfl rfl (does_assign rfl) ?_
    refine okL_nil ?_
    refine okX_next ?_
    refine okC_seq ?_
    refine okC_seq ?_
    refine okC_region ?_
    refine okL_step 15 (tI 0) rfl rfl (does_assign rfl) ?_
    refine okL_nil ?_
    refine okX_next ?_
    obtain ⟨z50, h52, hz51⟩ := bs h
    refine okC_meetE (X := Bool) (fun x => z50 = x) (fun x : Bool => [(7, (pAt g7 0)), (8, (tB s10)), (12, (tL 1 lIs r46.1)), (14, (tB x))]) (fun x : Bool => Item.blk g7 27 [(tI r5.Params), (tI r5.Regs), (tL 5 Block.ty r5.Blocks)] :: L) ?_ ?_
    · refine okC_block ?_
      refine okC_loop (X := (Bool × Int)) (fun k x => law33_LivenessLive_l3 K r8 r46 k x = some z50) (fun x : (Bool × Int) => [(2, (tI r8)), (7, (pAt g7 0)), (8, (tB s10)), (12, (tL 1 lIs r46.1)), (13, (tL 1 lIs r46.2)), (14, (tB x.1)), (15, (tI x.2))]) (fun x : (Bool × Int) => Item.blk g7 27 [(tI r5.Params), (tI r5.Regs), (tL 5 Block.ty r5.Blocks)] :: L) K (false, 0) h52 (cc rfl (cc rfl (cc rfl (cc rfl (cc rfl (cc rfl (cc rfl cn))))))) rfl (fun k s53 hI => ?_)
      change OkC _ _ _ [(2, (tI r8)), (7, (pAt g7 0)), (8, (tB s10)), (12, (tL 1 lIs r46.1)), (13, (tL 1 lIs r46.2)), (14, (tB s53.1)), (15, (tI s53.2))] (Item.blk g7 27 [(tI r5.Params), (tI r5.Regs), (tL 5 Block.ty r5.Blocks)] :: L)
      cases k with
      | zero => exact (nz hI).elim
      | succ k =>
        have h : law33_LivenessLive_l3 K r8 r46 (k + 1) s53 = some z50 := hI
        rw [law33_LivenessLive_l3.eq_2] at h
        refine okC_seq ?_
        refine okC_seq ?_
        refine okC_region ?_
        refine okL_step 80 (tI s53.2) rfl rfl (does_move rfl) ?_
        refine okL_step 81 (tL 1 lIs r46.1) rfl rfl (does_move rfl) ?_
        refine okL_step 82 (tI ((r46.1).length : Int)) rfl rfl (does_len (sz := 1) (f := lIs) (l := r46.1) rfl Tryd.underlying22 rfl) ?_
        refine okL_step 83 (tB (decide (s53.2 < ((r46.1).length : Int)))) rfl rfl (does_lss rfl rfl) ?_
        refine okL_step 84 (tB (decide (s53.2 < ((r46.1).length : Int)))) rfl rfl (does_move rfl) ?_
        refine okL_meet (X := Bool) 5 (fun x => x = ((decide (s53.2 < ((r46.1).length : Int))) && (decide (s53.2 < ((r46.2).length : Int))))) (fun x : Bool => [(2, (tI r8)), (7, (pAt g7 0)), (8, (tB s10)), (12, (tL 1 lIs r46.1)), (13, (tL 1 lIs r46.2)), (14, (tB s53.1)), (15, (tI s53.2)), (89, (tB x))]) (fun x : Bool => Item.blk g7 27 [(tI r5.Params), (tI r5.Regs), (tL 5 Block.ty r5.Blocks)] :: L) _ rfl ?_ ?_
        · refine okL_split (decide (s53.2 < ((r46.1).length : Int))) (fun hb55 => ?_) (fun hb55 => ?_)
          · refine okL_guard 85 (tI s53.2) 84 (decide (s53.2 < ((r46.1).length : Int))) rfl rfl hb55 rfl rfl (does_move rfl) ?_
            refine okL_guard 86 (tL 1 lIs r46.2) 84 (decide (s53.2 < ((r46.1).length : Int))) rfl rfl hb55 rfl rfl (does_move rfl) ?_
            refine okL_guard 87 (tI ((r46.2).length : Int)) 84 (decide (s53.2 < ((r46.1).length : Int))) rfl rfl hb55 rfl rfl (does_len (sz := 1) (f := lIs) (l := r46.2) rfl Tryd.underlying22 rfl) ?_
            refine okL_guard 88 (tB (decide (s53.2 < ((r46.2).length : Int)))) 84 (decide (s53.2 < ((r46.1).length : Int))) rfl rfl hb55 rfl rfl (does_lss rfl rfl) ?_
            refine okL_step 89 (tB (decide (s53.2 < ((r46.2).length : Int)))) rfl rfl (does_pick_t (decide (s53.2 < ((r46.1).length : Int))) rfl hb55 rfl) ?_
            refine okL_nil ?_
            exact okX_meet (I := _) (decide (s53.2 < ((r46.2).length : Int))) (and_t hb55) (cc rfl (cc rfl (cc rfl (cc rfl (cc rfl (cc rfl (cc rfl (cc rfl cn)))))))) rfl
          · refine okL_skip 85 84 (decide (s53.2 < ((r46.1).length : Int))) rfl rfl hb55 rfl rfl ?_
            refine okL_skip 86 84 (decide (s53.2 < ((r46.1).length : Int))) rfl rfl hb55 rfl rfl ?_
            refine okL_skip 87 84 (decide (s53.2 < ((r46.1).length : Int))) rfl rfl hb55 rfl rfl ?_
            refine okL_skip 88 84 (decide (s53.2 < ((r46.1).length : Int))) rfl rfl hb55 rfl rfl ?_
            refine okL_step 89 (tB false) rfl rfl (does_pick_f (decide (s53.2 < ((r46.1).length : Int))) rfl hb55 rfl) ?_
            refine okL_nil ?_
            exact okX_meet (I := _) false (and_f hb55) (cc rfl (cc rfl (cc rfl (cc rfl (cc rfl (cc rfl (cc rfl (cc rfl cn)))))))) rfl
        · intro x75 hx
          subst hx
          change OkL _ _ _ _ [(2, (tI r8)), (7, (pAt g7 0)), (8, (tB s10)), (12, (tL 1 lIs r46.1)), (13, (tL 1 lIs r46.2)), (14, (tB s53.1)), (15, (tI s53.2)), (89, (tB ((decide (s53.2 < ((r46.1).length : Int))) && (decide (s53.2 < ((r46.2).length : Int))))))] (Item.blk g7 27 [(tI r5.Params), (tI r5.Regs), (tL 5 Block.ty r5.Blocks)] :: L)
          refine okL_nil ?_
          refine okX_next ?_
          refine okC_cond (b := ((decide (s53.2 < ((r46.1).length : Int))) && (decide (s53.2 < ((r46.2).length : Int))))) rfl (fun hb56 => ?_) (fun hb56 => ?_)
          · replace h := ct hb56 h
            refine okC_skip ?_
            refine okX_next ?_
            refine okC_seq ?_
            refine okC_block ?_
            refine okC_region ?_
            refine okL_step 92 (tB s53.1) rfl rfl (does_move rfl) ?_
            refine okL_step 93 (tB s53.1) rfl rfl (does_move rfl) ?_
            obtain ⟨z58, h60, hz59⟩ := bs h
            refine okL_meet (X := Bool) 7 (fun x => z58 = x) (fun x : Bool => [(2, (tI r8)), (7, (pAt g7 0)), (8, (tB s10)), (12, (tL 1 lIs r46.1)), (13, (tL 1 lIs r46.2)), (14, (tB s53.1)), (15, (tI s53.2)), (100, (tB x))]) (fun x : Bool => Item.blk g7 27 [(tI r5.Params), (tI r5.Regs), (tL 5 Block.ty r5.Blocks)] :: L) _ rfl ?_ ?_
            · refine okL_split s53.1 (fun hb57 => ?_) (fun hb57 => ?_)
              · replace h60 := ct hb57 h60
                refine okL_skip 94 93 s53.1 rfl rfl hb57 rfl rfl ?_
                refine okL_skip 95 93 s53.1 rfl rfl hb57 rfl rfl ?_
                refine okL_skip 96 93 s53.1 rfl rfl hb57 rfl rfl ?_
                refine okL_skip 97 93 s53.1 rfl rfl hb57 rfl rfl ?_
                refine okL_skip 98 93 s53.1 rfl rfl hb57 rfl rfl ?_
                refine okL_skip 99 93 s53.1 rfl rfl hb57 rfl rfl ?_
                refine okL_step 100 (tB true) rfl rfl (does_pick_t s53.1 rfl hb57 rfl) ?_
                refine okL_nil ?_
                exact okX_meet (I := _) true (smh h60) (cc rfl (cc rfl (cc rfl (cc rfl (cc rfl (cc rfl (cc rfl (cc rfl cn)))))))) rfl
              · replace h60 := cf hb57 h60
                refine okL_guard 94 (tL 1 lIs r46.1) 93 s53.1 rfl rfl hb57 rfl rfl (does_move rfl) ?_
                refine okL_guard 95 (tI s53.2) 93 s53.1 rfl rfl hb57 rfl rfl (does_move rfl) ?_
                obtain ⟨y62, hi63, h60⟩ := bs h60
                refine okL_guard 96 (Ty.ptr [(tL 1 lI y62)]) 93 s53.1 rfl rfl hb57 rfl rfl (does_index (sz := 1) (f := lIs) (l := r46.1) (n := s53.2) y62 Tryd.underlying22 Tryd.sizeOf31 hi63 rfl rfl) ?_
                refine okL_guard 97 (tL 1 lI y62) 93 s53.1 rfl rfl hb57 rfl rfl (does_load1 Tryd.isAgg31 rfl) ?_
                refine okL_guard 98 (tI r8) 93 s53.1 rfl rfl hb57 rfl rfl (does_move rfl) ?_
                obtain ⟨r64, hc65, h60⟩ := bs h60
                refine okL_guard 99 (tB r64) 93 s53.1 rfl rfl hb57 rfl rfl (does_call0 (c_ref32_Contains K y62 r8 r64 hc65) rfl Tryd.call40 rfl) ?_
                refine okL_step 100 (tB r64) rfl rfl (does_pick_f s53.1 rfl hb57 rfl) ?_
                refine okL_nil ?_
                exact okX_meet (I := _) r64 (smh h60) (cc rfl (cc rfl (cc rfl (cc rfl (cc rfl (cc rfl (cc rfl (cc rfl cn)))))))) rfl
            · intro x61 hx
              obtain rfl : x61 = z58 := hx.symm
              replace h := hz59
              change OkL _ _ _ _ [(2, (tI r8)), (7, (pAt g7 0)), (8, (tB s10)), (12, (tL 1 lIs r46.1)), (13, (tL 1 lIs r46.2)), (14, (tB s53.1)), (15, (tI s53.2)), (100, (tB x61))] (Item.blk g7 27 [(tI r5.Params), (tI r5.Regs), (tL 5 Block.ty r5.Blocks)] :: L)
              refine okL_step 101 (tB x61) rfl rfl (does_move rfl) ?_
              obtain ⟨z67, h69, hz68⟩ := bs h
              refine okL_meet (X := Bool) 7 (fun x => z67 = x) (fun x : Bool => [(2, (tI r8)), (7, (pAt g7 0)), (8, (tB s10)), (12, (tL 1 lIs r46.1)), (13, (tL 1 lIs r46.2)), (14, (tB s53.1)), (15, (tI s53.2)), (108, (tB x))]) (fun x : Bool => Item.blk g7 27 [(tI r5.Params), (tI r5.Regs), (tL 5 Block.ty r5.Blocks)] :: L) _ rfl ?_ ?_
              · refine okL_split x61 (fun hb66 => ?_) (fun hb66 => ?_)
                · replace h69 := ct hb66 h69
                  refine okL_skip 102 101 x61 rfl rfl hb66 rfl rfl ?_
                  refine okL_skip 103 101 x61 rfl rfl hb66 rfl rfl ?_
                  refine okL_skip 104 101 x61 rfl rfl hb66 rfl rfl ?_
                  refine okL_skip 105 101 x61 rfl rfl hb66 rfl rfl ?_
                  refine okL_skip 106 101 x61 rfl rfl hb66 rfl rfl ?_
                  refine okL_skip 107 101 x61 rfl rfl hb66 rfl rfl ?_
                  refine okL_step 108 (tB true) rfl rfl (does_pick_t x61 rfl hb66 rfl) ?_
                  refine okL_nil ?_
                  exact okX_meet (I := _) true (smh h69) (cc rfl (cc rfl (cc rfl (cc rfl (cc rfl (cc rfl (cc rfl (cc rfl cn)))))))) rfl
                · replace h69 := cf hb66 h69
                  refine okL_guard 102 (tL 1 lIs r46.2) 101 x61 rfl rfl hb66 rfl rfl (does_move rfl) ?_
                  refine okL_guard 103 (tI s53.2) 101 x61 rfl rfl hb66 rfl rfl (does_move rfl) ?_
                  obtain ⟨y71, hi72, h69⟩ := bs h69
                  refine okL_guard 104 (Ty.ptr [(tL 1 lI y71)]) 101 x61 rfl rfl hb66 rfl rfl (does_index (sz := 1) (f := lIs) (l := r46.2) (n := s53.2) y71 Tryd.underlying22 Tryd.sizeOf31 hi72 rfl rfl) ?_
                  refine okL_guard 105 (tL 1 lI y71) 101 x61 rfl rfl hb66 rfl rfl (does_load1 Tryd.isAgg31 rfl) ?_
                  refine okL_guard 106 (tI r8) 101 x61 rfl rfl hb66 rfl rfl (does_move rfl) ?_
                  obtain ⟨r73, hc74, h69⟩ := bs h69
                  refine okL_guard 107 (tB r73) 101 x61 rfl rfl hb66 rfl rfl (does_call0 (c_ref32_Contains K y71 r8 r73 hc74) rfl Tryd.call40 rfl) ?_
                  refine okL_step 108 (tB r73) rfl rfl (does_pick_f x61 rfl hb66 rfl) ?_
                  refine okL_nil ?_
                  exact okX_meet (I := _) r73 (smh h69) (cc rfl (cc rfl (cc rfl (cc rfl (cc rfl (cc rfl (cc rfl (cc rfl cn)))))))) rfl
              · intro x70 hx
                obtain rfl : x70 = z67 := hx.symm
                replace h := hz68
                change OkL _ _ _ _ [(2, (tI r8)), (7, (pAt g7 0)), (8, (tB s10)), (12, (tL 1 lIs r46.1)), (13, (tL 1 lIs r46.2)), (14, (tB s53.1)), (15, (tI s53.2)), (108, (tB x70))] (Item.blk g7 27 [(tI r5.Params), (tI r5.Regs), (tL 5 Block.ty r5.Blocks)] :: L)
                refine okL_step 14 (tB x70) rfl rfl (does_assign rfl) ?_
                refine okL_nil ?_
                refine okX_block_normal ?_
                refine okX_next ?_
                refine okC_region ?_
                refine okL_step 90 (tI s53.2) rfl rfl (does_move rfl) ?_
                refine okL_step 91 (tI (w64 (s53.2 + 1))) rfl rfl (does_add rfl rfl) ?_
                refine okL_step 15 (tI (w64 (s53.2 + 1))) rfl rfl (does_assign rfl) ?_
                refine okL_nil ?_
                exact okX_again k (Nat.lt_succ_self k) (x70, (w64 (s53.2 + 1))) h (cc rfl (cc rfl (cc rfl (cc rfl (cc rfl (cc rfl (cc rfl cn))))))) rfl
          · replace h := cf hb56 h
            refine okC_exit ?_
            refine okX_then_exit ?_
            refine okX_again_exit ?_
            refine okX_block_hit ?_
            exact okX_meet (I := _) s53.1 (smh h) (cc rfl (cc rfl (cc rfl (cc rfl cn)))) rfl
    · intro s48 hx
      change OkX _ _ _ [(7, (pAt g7 0)), (8, (tB s10)), (12, (tL 1 lIs r46.1)), (14, (tB s48))] (Item.blk g7 27 [(tI r5.Params), (tI r5.Regs), (tL 5 Block.ty r5.Blocks)] :: L)
      obtain rfl : s48 = z50 := hx.symm
      replace h := hz51
      refine okX_next ?_
      refine okC_seq ?_
      refine okC_region ?_
      refine okL_step 109 (tB s10) rfl rfl (does_move rfl) ?_
      refine okL_step 110 (tB s10) rfl rfl (does_move rfl) ?_
      refine okL_meet (X := Bool) 3 (fun x => x = (s10 || (!s48))) (fun x : Bool => [(7, (pAt g7 0)), (12, (tL 1 lIs r46.1)), (113, (tB x))]) (fun x : Bool => Item.blk g7 27 [(tI r5.Params), (tI r5.Regs), (tL 5 Block.ty r5.Blocks)] :: L) _ rfl ?_ ?_
      · refine okL_split s10 (fun hb76 => ?_) (fun hb76 => ?_)
        · refine okL_skip 111 110 s10 rfl rfl hb76 rfl rfl ?_
          refine okL_skip 112 110 s10 rfl rfl hb76 rfl rfl ?_
          refine okL_step 113 (tB true) rfl rfl (does_pick_t s10 rfl hb76 rfl) ?_
          refine okL_nil ?_
          exact okX_meet (I := _) true (or_t hb76) (cc rfl (cc rfl (cc rfl cn))) rfl
        · refine okL_guard 111 (tB s48) 110 s10 rfl rfl hb76 rfl rfl (does_move rfl) ?_
          refine okL_guard 112 (tB (!s48)) 110 s10 rfl rfl hb76 rfl rfl (does_not rfl) ?_
          refine okL_step 113 (tB (!s48)) rfl rfl (does_pick_f s10 rfl hb76 rfl) ?_
          refine okL_nil ?_
          exact okX_meet (I := _) (!s48) (or_f hb76) (cc rfl (cc rfl (cc rfl cn))) rfl
      · intro x86 hx
        subst hx
        change OkL _ _ _ _ [(7, (pAt g7 0)), (12, (tL 1 lIs r46.1)), (113, (tB (s10 || (!s48))))] (Item.blk g7 27 [(tI r5.Params), (tI r5.Regs), (tL 5 Block.ty r5.Blocks)] :: L)
        refine okL_step 114 (tB (s10 || (!s48))) rfl rfl (does_move rfl) ?_
        refine okL_meet (X := Bool) 7 (fun x => x = ((s10 || (!s48)) && (((r46.1).length : Int) == ((r5.Blocks).length : Int)))) (fun x : Bool => [(121, (tB x))]) (fun x : Bool => Item.blk g7 27 [(tI r5.Params), (tI r5.Regs), (tL 5 Block.ty r5.Blocks)] :: L) _ rfl ?_ ?_
        · refine okL_split (s10 || (!s48)) (fun hb77 => ?_) (fun hb77 => ?_)
          · refine okL_guard 115 (tL 1 lIs r46.1) 114 (s10 || (!s48)) rfl rfl hb77 rfl rfl (does_move rfl) ?_
            refine okL_guard 116 (tI ((r46.1).length : Int)) 114 (s10 || (!s48)) rfl rfl hb77 rfl rfl (does_len (sz := 1) (f := lIs) (l := r46.1) rfl Tryd.underlying22 rfl) ?_
            refine okL_guard 117 (pAt g7 2) 114 (s10 || (!s48)) rfl rfl hb77 rfl rfl (does_fieldAddrP 2 Tryd.underlying27 rfl Tryd.sizeOf25 rfl rfl) ?_
            refine okL_guard 118 (tL 5 Block.ty r5.Blocks) 114 (s10 || (!s48)) rfl rfl hb77 rfl rfl (does_loadB1 Tryd.isAgg25 rfl 0 rfl rfl) ?_
            refine okL_guard 119 (tI ((r5.Blocks).length : Int)) 114 (s10 || (!s48)) rfl rfl hb77 rfl rfl (does_len (sz := 5) (f := Block.ty) (l := r5.Blocks) rfl Tryd.underlying25 rfl) ?_
            refine okL_guard 120 (tB (((r46.1).length : Int) == ((r5.Blocks).length : Int))) 114 (s10 || (!s48)) rfl rfl hb77 rfl rfl (does_eql rfl rfl) ?_
            refine okL_step 121 (tB (((r46.1).length : Int) == ((r5.Blocks).length : Int))) rfl rfl (does_pick_t (s10 || (!s48)) rfl hb77 rfl) ?_
            refine okL_nil ?_
            exact okX_meet (I := _) (((r46.1).length : Int) == ((r5.Blocks).length : Int)) (and_t hb77) (cc rfl cn) rfl
          · refine okL_skip 115 114 (s10 || (!s48)) rfl rfl hb77 rfl rfl ?_
            refine okL_skip 116 114 (s10 || (!s48)) rfl rfl hb77 rfl rfl ?_
            refine okL_skip 117 114 (s10 || (!s48)) rfl rfl hb77 rfl rfl ?_
            refine okL_skip 118 114 (s10 || (!s48)) rfl rfl hb77 rfl rfl ?_
            refine okL_skip 119 114 (s10 || (!s48)) rfl rfl hb77 rfl rfl ?_
            refine okL_skip 120 114 (s10 || (!s48)) rfl rfl hb77 rfl rfl ?_
            refine okL_step 121 (tB false) rfl rfl (does_pick_f (s10 || (!s48)) rfl hb77 rfl) ?_
            refine okL_nil ?_
            exact okX_meet (I := _) false (and_f hb77) (cc rfl cn) rfl
        · intro x85 hx
          subst hx
          change OkL _ _ _ _ [(121, (tB ((s10 || (!s48)) && (((r46.1).length : Int) == ((r5.Blocks).length : Int)))))] (Item.blk g7 27 [(tI r5.Params), (tI r5.Regs), (tL 5 Block.ty r5.Blocks)] :: L)
          refine okL_step 122 (tB ((s10 || (!s48)) && (((r46.1).length : Int) == ((r5.Blocks).length : Int)))) rfl rfl (does_move rfl) ?_
          obtain ⟨z79, h81, hz80⟩ := bs h
          refine okL_meet (X := Bool) 2 (fun x => z79 = x) (fun x : Bool => [(124, (tB x))]) (fun x : Bool => Item.blk g7 27 [(tI r5.Params), (tI r5.Regs), (tL 5 Block.ty r5.Blocks)] :: L) _ rfl ?_ ?_
          · refine okL_split ((s10 || (!s48)) && (((r46.1).length : Int) == ((r5.Blocks).length : Int))) (fun hb78 => ?_) (fun hb78 => ?_)
            · replace h81 := ct hb78 h81
              obtain ⟨r83, hc84, h81⟩ := bs h81
              refine okL_guard 123 (tB r83) 122 ((s10 || (!s48)) && (((r46.1).length : Int) == ((r5.Blocks).length : Int))) rfl rfl hb78 rfl rfl (does_call0 (c_law33_LivenessExamples K r83 hc84) rfl Tryd.call3 rfl) ?_
              refine okL_step 124 (tB r83) rfl rfl (does_pick_t ((s10 || (!s48)) && (((r46.1).length : Int) == ((r5.Blocks).length : Int))) rfl hb78 rfl) ?_
              refine okL_nil ?_
              exact okX_meet (I := _) r83 (smh h81) (cc rfl cn) rfl
            · replace h81 := cf hb78 h81
              refine okL_skip 123 122 ((s10 || (!s48)) && (((r46.1).length : Int) == ((r5.Blocks).length : Int))) rfl rfl hb78 rfl rfl ?_
              refine okL_step 124 (tB false) rfl rfl (does_pick_f ((s10 || (!s48)) && (((r46.1).length : Int) == ((r5.Blocks).length : Int))) rfl hb78 rfl) ?_
              refine okL_nil ?_
              exact okX_meet (I := _) false (smh h81) (cc rfl cn) rfl
          · intro x82 hx
            obtain rfl : x82 = z79 := hx.symm
            replace h := hz80
            change OkL _ _ _ _ [(124, (tB x82))] (Item.blk g7 27 [(tI r5.Params), (tI r5.Regs), (tL 5 Block.ty r5.Blocks)] :: L)
            refine okL_step 6 (tB x82) rfl rfl (does_assign rfl) ?_
            refine okL_nil ?_
            refine okX_next ?_
            refine okC_ret ?_
            obtain rfl := (smh h).symm
            refine okX_items [Item.blk g7 27 [(tI r5.Params), (tI r5.Regs), (tL 5 Block.ty r5.Blocks)]] (L) (pm 0 rfl (pr _)) ?_
            exact okX_ret1 () Tryd.results7 rfl rfl

end Go.Proofs.YtocfnpnnbmicmaaDoor.Tc
