/- Written by gen.py: for each Go function a pure Lean function, and that the Go code comes to what it says. -/
import Derived.Test.YtocfnpnnbmicmaaDoorXRd3
set_option linter.unusedVariables false
set_option maxRecDepth 8000
set_option maxHeartbeats 4000000
namespace Go.Proofs.YtocfnpnnbmicmaaDoor.Tc
open Go Go.RowKit

def law33_LivenessExamples (K : Nat) : Option Bool :=
  (Option.bind (law33_example) (fun r1 => (Option.bind (liveness_Blocks K r1) (fun r3 => (Option.bind (law33_example) (fun r5 => (Option.bind (liveness_Points K r5 1) (fun r7 => (Option.bind (ref32_SameLists K r3.1 ([[], ([0, 1] : List Int), ([0] : List Int)] : List (List Int))) (fun r9 => (Option.bind (cnd r9 (Option.bind (ref32_SameLists K r3.2 ([([0, 1] : List Int), ([0, 1] : List Int), []] : List (List Int))) (fun r16 => (some r16))) (some false)) (fun x15 => (Option.bind (cnd (x15 && (((r7).length : Int) == 5)) (Option.bind (idx r7 4) (fun y24 => (Option.bind (ref22_SameInts K y24 ([0, 1] : List Int)) (fun r26 => (some r26))))) (some false)) (fun x23 => (Option.bind (cnd x23 (Option.bind (law33_example) (fun r33 => (Option.bind (liveness_AcrossCalls K r33) (fun r35 => (some (((r35).length : Int) == 0)))))) (some false)) (fun x32 => (some x32)))))))))))))))))

theorem c_law33_LivenessExamples (K : Nat) (r : Bool) (h : law33_LivenessExamples K = some r) : CallP Tryd.prog glob 3 [] (tB r) := by
  refine call_of_code Tryd.func3 rfl Tryd.ntmps3 rfl (fun L w => ?_)
  change OkC _ _ _ [] (L)
  unfold law33_LivenessExamples at h
  refine okC_seq ?_
  refine okC_region ?_
  refine okL_step 0 (tB false) rfl rfl (does_assign rfl) ?_
  refine okL_nil ?_
  refine okX_next ?_
  refine okC_seq ?_
  refine okC_region ?_
  obtain ⟨r1, hc2, h⟩ := bs h
  refine okL_step 5 (Ty.agg [(tI r1.Params), (tI r1.Regs), (tL 5 Block.ty r1.Blocks)]) rfl rfl (does_call0 (c_law33_example r1 hc2) rfl Tryd.call23 rfl) ?_
  obtain ⟨r3, hc4, h⟩ := bs h
  refine okL_step 6 (Ty.tup [(tL 1 lIs r3.1), (tL 1 lIs r3.2)]) rfl rfl (does_call0 (c_liveness_Blocks K r1 r3 hc4) rfl Tryd.call22 rfl) ?_
  refine okL_step 4 (Ty.tup [(tL 1 lIs r3.1), (tL 1 lIs r3.2)]) rfl rfl (does_move rfl) ?_
  refine okL_step 7 (tL 1 lIs r3.1) rfl rfl (does_extract rfl rfl) ?_
  refine okL_step 8 (tL 1 lIs r3.2) rfl rfl (does_extract rfl rfl) ?_
  refine okL_step 1 (tL 1 lIs r3.1) rfl rfl (does_assign rfl) ?_
  refine okL_step 2 (tL 1 lIs r3.2) rfl rfl (does_assign rfl) ?_
  refine okL_nil ?_
  refine okX_next ?_
  refine okC_seq ?_
  refine okC_region ?_
  obtain ⟨r5, hc6, h⟩ := bs h
  refine okL_step 9 (Ty.agg [(tI r5.Params), (tI r5.Regs), (tL 5 Block.ty r5.Blocks)]) rfl rfl (does_call0 (c_law33_example r5 hc6) rfl Tryd.call23 rfl) ?_
  obtain ⟨r7, hc8, h⟩ := bs h
  refine okL_step 10 (tL 1 lIs r7) rfl rfl (does_call0 (c_liveness_Points K r5 1 r7 hc8) rfl Tryd.call24 rfl) ?_
  refine okL_step 3 (tL 1 lIs r7) rfl rfl (does_assign rfl) ?_
  refine okL_nil ?_
  refine okX_next ?_
  refine okC_seq ?_
  refine okC_region ?_
  refine okL_step 11 (tL 1 lIs r3.1) rfl rfl (does_move rfl) ?_
  refine okL_step 12 (tL 1 lI ([0, 1] : List Int)) rfl rfl (does_buildSlice (f := lI) ([0, 1] : List Int) [(tI 0), (tI 1)] el31 rfl rfl rfl (fc [(tI 0)] 0 rfl (part_one (one_i _)) rfl rfl (fc [(tI 1)] 1 rfl (part_one (one_i _)) rfl rfl (fn_ rfl))) rfl (fun _ => rfl)) ?_
  refine okL_step 13 (tL 1 lI ([0] : List Int)) rfl rfl (does_buildSlice (f := lI) ([0] : List Int) [(tI 0)] el31 rfl rfl rfl (fc [(tI 0)] 0 rfl (part_one (one_i _)) rfl rfl (fn_ rfl)) rfl (fun _ => rfl)) ?_
  refine okL_step 14 (tL 1 lIs ([[], ([0, 1] : List Int), ([0] : List Int)] : List (List Int))) rfl rfl (does_buildSlice (f := lIs) ([[], ([0, 1] : List Int), ([0] : List Int)] : List (List Int)) [(tL 1 lI []), (tL 1 lI ([0, 1] : List Int)), (tL 1 lI ([0] : List Int))] el22 rfl rfl rfl (fc [(tL 1 lI [])] 0 rfl (part_sub (part_one (one_val rfl)) (.cons (sub_nil _) SubL.nil)) rfl rfl (fc [(tL 1 lI ([0, 1] : List Int))] 1 rfl (part_one (one_slice _ _)) rfl rfl (fc [(tL 1 lI ([0] : List Int))] 2 rfl (part_one (one_slice _ _)) rfl rfl (fn_ rfl)))) rfl (fun _ => rfl)) ?_
  obtain ⟨r9, hc10, h⟩ := bs h
  refine okL_step 15 (tB r9) rfl rfl (does_call0 (c_ref32_SameLists K r3.1 ([[], ([0, 1] : List Int), ([0] : List Int)] : List (List Int)) r9 hc10) rfl Tryd.call25 rfl) ?_
  refine okL_step 16 (tB r9) rfl rfl (does_move rfl) ?_
  obtain ⟨z12, h14, hz13⟩ := bs h
  refine okL_meet (X := Bool) 6 (fun x => z12 = x) (fun x : Bool => [(0, (tB false)), (3, (tL 1 lIs r7)), (22, (tB x))]) (fun x : Bool => L) _ rfl ?_ ?_
  · refine okL_split r9 (fun hb11 => ?_) (fun hb11 => ?_)
    · replace h14 := ct hb11 h14
      refine okL_guard 17 (tL 1 lIs r3.2) 16 r9 rfl rfl hb11 rfl rfl (does_move rfl) ?_
      refine okL_guard 18 (tL 1 lI ([0, 1] : List Int)) 16 r9 rfl rfl hb11 rfl rfl (does_buildSlice (f := lI) ([0, 1] : List Int) [(tI 0), (tI 1)] el31 rfl rfl rfl (fc [(tI 0)] 0 rfl (part_one (one_i _)) rfl rfl (fc [(tI 1)] 1 rfl (part_one (one_i _)) rfl rfl (fn_ rfl))) rfl (fun _ => rfl)) ?_
      refine okL_guard 19 (tL 1 lI ([0, 1] : List Int)) 16 r9 rfl rfl hb11 rfl rfl (does_buildSlice (f := lI) ([0, 1] : List Int) [(tI 0), (tI 1)] el31 rfl rfl rfl (fc [(tI 0)] 0 rfl (part_one (one_i _)) rfl rfl (fc [(tI 1)] 1 rfl (part_one (one_i _)) rfl rfl (fn_ rfl))) rfl (fun _ => rfl)) ?_
      refine okL_guard 20 (tL 1 lIs ([([0, 1] : List Int), ([0, 1] : List Int), []] : List (List Int))) 16 r9 rfl rfl hb11 rfl rfl (does_buildSlice (f := lIs) ([([0, 1] : List Int), ([0, 1] : List Int), []] : List (List Int)) [(tL 1 lI ([0, 1] : List Int)), (tL 1 lI ([0, 1] : List Int)), (tL 1 lI [])] el22 rfl rfl rfl (fc [(tL 1 lI ([0, 1] : List Int))] 0 rfl (part_one (one_slice _ _)) rfl rfl (fc [(tL 1 lI ([0, 1] : List Int))] 1 rfl (part_one (one_slice _ _)) rfl rfl (fc [(tL 1 lI [])] 2 rfl (part_sub (part_one (one_val rfl)) (.cons (sub_nil _) SubL.nil)) rfl rfl (fn_ rfl)))) rfl (fun _ => rfl)) ?_
      obtain ⟨r16, hc17, h14⟩ := bs h14
      refine okL_guard 21 (tB r16) 16 r9 rfl rfl hb11 rfl rfl (does_call0 (c_ref32_SameLists K r3.2 ([([0, 1] : List Int), ([0, 1] : List Int), []] : List (List Int)) r16 hc17) rfl Tryd.call25 rfl) ?_
      refine okL_step 22 (tB r16) rfl rfl (does_pick_t r9 rfl hb11 rfl) ?_
      refine okL_nil ?_
      exact okX_meet (I := _) r16 (smh h14) (cc rfl (cc rfl (cc rfl cn))) rfl
    · replace h14 := cf hb11 h14
      refine okL_skip 17 16 r9 rfl rfl hb11 rfl rfl ?_
      refine okL_skip 18 16 r9 rfl rfl hb11 rfl rfl ?_
      refine okL_skip 19 16 r9 rfl rfl hb11 rfl rfl ?_
      refine okL_skip 20 16 r9 rfl rfl hb11 rfl rfl ?_
      refine okL_skip 21 16 r9 rfl rfl hb11 rfl rfl ?_
      refine okL_step 22 (tB false) rfl rfl (does_pick_f r9 rfl hb11 rfl) ?_
      refine okL_nil ?_
      exact okX_meet (I := _) false (smh h14) (cc rfl (cc rfl (cc rfl cn))) rfl
  · intro x15 hx
    obtain rfl : x15 = z12 := hx.symm
    replace h := hz13
    change OkL _ _ _ _ [(0, (tB false)), (3, (tL 1 lIs r7)), (22, (tB x15))] (L)
    refine okL_step 23 (tB x15) rfl rfl (does_move rfl) ?_
    refine okL_meet (X := Bool) 4 (fun x => x = (x15 && (((r7).length : Int) == 5))) (fun x : Bool => [(0, (tB false)), (3, (tL 1 lIs r7)), (27, (tB x))]) (fun x : Bool => L) _ rfl ?_ ?_
    · refine okL_split x15 (fun hb18 => ?_) (fun hb18 => ?_)
      · refine okL_guard 24 (tL 1 lIs r7) 23 x15 rfl rfl hb18 rfl rfl (does_move rfl) ?_
        refine okL_guard 25 (tI ((r7).length : Int)) 23 x15 rfl rfl hb18 rfl rfl (does_len (sz := 1) (f := lIs) (l := r7) rfl Tryd.underlying22 rfl) ?_
        refine okL_guard 26 (tB (((r7).length : Int) == 5)) 23 x15 rfl rfl hb18 rfl rfl (does_eql rfl rfl) ?_
        refine okL_step 27 (tB (((r7).length : Int) == 5)) rfl rfl (does_pick_t x15 rfl hb18 rfl) ?_
        refine okL_nil ?_
        exact okX_meet (I := _) (((r7).length : Int) == 5) (and_t hb18) (cc rfl (cc rfl (cc rfl cn))) rfl
      · refine okL_skip 24 23 x15 rfl rfl hb18 rfl rfl ?_
        refine okL_skip 25 23 x15 rfl rfl hb18 rfl rfl ?_
        refine okL_skip 26 23 x15 rfl rfl hb18 rfl rfl ?_
        refine okL_step 27 (tB false) rfl rfl (does_pick_f x15 rfl hb18 rfl) ?_
        refine okL_nil ?_
        exact okX_meet (I := _) false (and_f hb18) (cc rfl (cc rfl (cc rfl cn))) rfl
    · intro x37 hx
      subst hx
      change OkL _ _ _ _ [(0, (tB false)), (3, (tL 1 lIs r7)), (27, (tB (x15 && (((r7).length : Int) == 5))))] (L)
      refine okL_step 28 (tB (x15 && (((r7).length : Int) == 5))) rfl rfl (does_move rfl) ?_
      obtain ⟨z20, h22, hz21⟩ := bs h
      refine okL_meet (X := Bool) 6 (fun x => z20 = x) (fun x : Bool => [(0, (tB false)), (34, (tB x))]) (fun x : Bool => L) _ rfl ?_ ?_
      · refine okL_split (x15 && (((r7).length : Int) == 5)) (fun hb19 => ?_) (fun hb19 => ?_)
        · replace h22 := ct hb19 h22
          refine okL_guard 29 (tL 1 lIs r7) 28 (x15 && (((r7).length : Int) == 5)) rfl rfl hb19 rfl rfl (does_move rfl) ?_
          obtain ⟨y24, hi25, h22⟩ := bs h22
          refine okL_guard 30 (Ty.ptr [(tL 1 lI y24)]) 28 (x15 && (((r7).length : Int) == 5)) rfl rfl hb19 rfl rfl (does_index (sz := 1) (f := lIs) (l := r7) (n := 4) y24 Tryd.underlying22 Tryd.sizeOf31 hi25 rfl rfl) ?_
          refine okL_guard 31 (tL 1 lI y24) 28 (x15 && (((r7).length : Int) == 5)) rfl rfl hb19 rfl rfl (does_load1 Tryd.isAgg31 rfl) ?_
          refine okL_guard 32 (tL 1 lI ([0, 1] : List Int)) 28 (x15 && (((r7).length : Int) == 5)) rfl rfl hb19 rfl rfl (does_buildSlice (f := lI) ([0, 1] : List Int) [(tI 0), (tI 1)] el31 rfl rfl rfl (fc [(tI 0)] 0 rfl (part_one (one_i _)) rfl rfl (fc [(tI 1)] 1 rfl (part_one (one_i _)) rfl rfl (fn_ rfl))) rfl (fun _ => rfl)) ?_
          obtain ⟨r26, hc27, h22⟩ := bs h22
          refine okL_guard 33 (tB r26) 28 (x15 && (((r7).length : Int) == 5)) rfl rfl hb19 rfl rfl (does_call0 (c_ref22_SameInts K y24 ([0, 1] : List Int) r26 hc27) rfl Tryd.call26 rfl) ?_
          refine okL_step 34 (tB r26) rfl rfl (does_pick_t (x15 && (((r7).length : Int) == 5)) rfl hb19 rfl) ?_
          refine okL_nil ?_
          exact okX_meet (I := _) r26 (smh h22) (cc rfl (cc rfl cn)) rfl
        · replace h22 := cf hb19 h22
          refine okL_skip 29 28 (x15 && (((r7).length : Int) == 5)) rfl rfl hb19 rfl rfl ?_
          refine okL_skip 30 28 (x15 && (((r7).length : Int) == 5)) rfl rfl hb19 rfl rfl ?_
          refine okL_skip 31 28 (x15 && (((r7).length : Int) == 5)) rfl rfl hb19 rfl rfl ?_
          refine okL_skip 32 28 (x15 && (((r7).length : Int) == 5)) rfl rfl hb19 rfl rfl ?_
          refine okL_skip 33 28 (x15 && (((r7).length : Int) == 5)) rfl rfl hb19 rfl rfl ?_
          refine okL_step 34 (tB false) rfl rfl (does_pick_f (x15 && (((r7).length : Int) == 5)) rfl hb19 rfl) ?_
          refine okL_nil ?_
          exact okX_meet (I := _) false (smh h22) (cc rfl (cc rfl cn)) rfl
      · intro x23 hx
        obtain rfl : x23 = z20 := hx.symm
        replace h := hz21
        change OkL _ _ _ _ [(0, (tB false)), (34, (tB x23))] (L)
        refine okL_step 35 (tB x23) rfl rfl (does_move rfl) ?_
        obtain ⟨z29, h31, hz30⟩ := bs h
        refine okL_meet (X := Bool) 5 (fun x => z29 = x) (fun x : Bool => [(0, (tB false)), (40, (tB x))]) (fun x : Bool => L) _ rfl ?_ ?_
        · refine okL_split x23 (fun hb28 => ?_) (fun hb28 => ?_)
          · replace h31 := ct hb28 h31
            obtain ⟨r33, hc34, h31⟩ := bs h31
            refine okL_guard 36 (Ty.agg [(tI r33.Params), (tI r33.Regs), (tL 5 Block.ty r33.Blocks)]) 35 x23 rfl rfl hb28 rfl rfl (does_call0 (c_law33_example r33 hc34) rfl Tryd.call23 rfl) ?_
            obtain ⟨r35, hc36, h31⟩ := bs h31
            refine okL_guard 37 (tL 1 lI r35) 35 x23 rfl rfl hb28 rfl rfl (does_call0 (c_liveness_AcrossCalls K r33 r35 hc36) rfl Tryd.call27 rfl) ?_
            refine okL_guard 38 (tI ((r35).length : Int)) 35 x23 rfl rfl hb28 rfl rfl (does_len (sz := 1) (f := lI) (l := r35) rfl Tryd.underlying31 rfl) ?_
            refine okL_guard 39 (tB (((r35).length : Int) == 0)) 35 x23 rfl rfl hb28 rfl rfl (does_eql rfl rfl) ?_
            refine okL_step 40 (tB (((r35).length : Int) == 0)) rfl rfl (does_pick_t x23 rfl hb28 rfl) ?_
            refine okL_nil ?_
            exact okX_meet (I := _) (((r35).length : Int) == 0) (smh h31) (cc rfl (cc rfl cn)) rfl
          · replace h31 := cf hb28 h31
            refine okL_skip 36 35 x23 rfl rfl hb28 rfl rfl ?_
            refine okL_skip 37 35 x23 rfl rfl hb28 rfl rfl ?_
            refine okL_skip 38 35 x23 rfl rfl hb28 rfl rfl ?_
            refine okL_skip 39 35 x23 rfl rfl hb28 rfl rfl ?_
            refine okL_step 40 (tB false) rfl rfl (does_pick_f x23 rfl hb28 rfl) ?_
            refine okL_nil ?_
            exact okX_meet (I := _) false (smh h31) (cc rfl (cc rfl cn)) rfl
        · intro x32 hx
          obtain rfl : x32 = z29 := hx.symm
          replace h := hz30
          change OkL _ _ _ _ [(0, (tB false)), (40, (tB x32))] (L)
          refine okL_step 0 (tB x32) rfl rfl (does_assign rfl) ?_
          refine okL_nil ?_
          refine okX_next ?_
          refine okC_ret ?_
          obtain rfl := (smh h).symm
          exact okX_ret1 () Tryd.results3 rfl rfl

def law33_LivenessSubset_l1 (K : Nat) (r33 : (List (List Int)) × (List (List Int))) (r35 : (List (List Int)) × (List (List Int))) : Nat → Int → Option (Unit ⊕ Bool)
  | 0, _ => none
  | k + 1, s44 => (cnd (decide (s44 < ((r33.1).length : Int))) (Option.bind (idx r33.1 s44) (fun y47 => (Option.bind (idx r35.1 s44) (fun y49 => (Option.bind (ref32_Minus K y47 y49) (fun r51 => (cnd (decide (((r51).length : Int) > 0)) (out (some false)) (law33_LivenessSubset_l1 K r33 r35 k (w64 (s44 + 1)))))))))) (inn ()))

def law33_LivenessSubset (K : Nat) (a0 : (List Int)) (a1 : Int) (a2 : Int) (a3 : Int) : Option Bool :=
  (Option.bind (subHi a0 (if 36 < ((a0).length : Int) then 36 else ((a0).length : Int))) (fun l1 => (Option.bind (keep_Pick a1 3) (fun r3 => (Option.bind (keep2_VFunc K l1 r3) (fun r5 => (Option.bind (app 56 [] r5.Blocks) (fun l9 => (Option.bind (keep_Pick a2 ((r5.Blocks).length : Int)) (fun r12 => (Option.bind (idx l9 r12) (fun y14 => (cnd (y14.End != 3) (Option.bind (law33_LivenessExamples K) (fun r18 => (some r18))) (Option.bind (app 56 l9 ([(⟨[], 3, y14.Reg, 0, 0⟩ : Block)] : List Block)) (fun l20 => (Option.bind (keep_Pick a3 r5.Regs) (fun r23 => (Option.bind (idx l20 r12) (fun y25 => (Option.bind (idx (l20.set r12.toNat (⟨y25.Instrs, 2, y25.Reg, y25.Target, y25.Else⟩ : Block)) r12) (fun y27 => (Option.bind (idx ((l20.set r12.toNat (⟨y25.Instrs, 2, y25.Reg, y25.Target, y25.Else⟩ : Block)).set r12.toNat (⟨y27.Instrs, y27.End, r23, y27.Target, y27.Else⟩ : Block)) r12) (fun y29 => (Option.bind (idx (((l20.set r12.toNat (⟨y25.Instrs, 2, y25.Reg, y25.Target, y25.Else⟩ : Block)).set r12.toNat (⟨y27.Instrs, y27.End, r23, y27.Target, y27.Else⟩ : Block)).set r12.toNat (⟨y29.Instrs, y29.End, y29.Reg, r12, y29.Else⟩ : Block)) r12) (fun y31 => (Option.bind (liveness_Blocks K r5) (fun r33 => (Option.bind (liveness_Blocks K (⟨r5.Params, r5.Regs, ((((l20.set r12.toNat (⟨y25.Instrs, 2, y25.Reg, y25.Target, y25.Else⟩ : Block)).set r12.toNat (⟨y27.Instrs, y27.End, r23, y27.Target, y27.Else⟩ : Block)).set r12.toNat (⟨y29.Instrs, y29.End, y29.Reg, r12, y29.Else⟩ : Block)).set r12.toNat (⟨y31.Instrs, y31.End, y31.Reg, y31.Target, ((r5.Blocks).length : Int)⟩ : Block))⟩ : VFunc)) (fun r35 => (cnd ((((r33.1).length : Int) != ((r5.Blocks).length : Int)) || (((r35.1).length : Int) != ((((((l20.set r12.toNat (⟨y25.Instrs, 2, y25.Reg, y25.Target, y25.Else⟩ : Block)).set r12.toNat (⟨y27.Instrs, y27.End, r23, y27.Target, y27.Else⟩ : Block)).set r12.toNat (⟨y29.Instrs, y29.End, y29.Reg, r12, y29.Else⟩ : Block)).set r12.toNat (⟨y31.Instrs, y31.End, y31.Reg, y31.Target, ((r5.Blocks).length : Int)⟩ : Block))).length : Int))) (some false) (sq (law33_LivenessSubset_l1 K r33 r35 K 0) (fun s39 => (Option.bind (law33_LivenessExamples K) (fun r54 => (some r54)))))))))))))))))))))))))))))))))))

theorem c_law33_LivenessSubset (K : Nat) (a0 : (List Int)) (a1 : Int) (a2 : Int) (a3 : Int) (r : Bool) (h : law33_LivenessSubset K a0 a1 a2 a3 = some r) : CallP Tryd.prog glob 9 [(tL 1 lI a0), (tI a1), (tI a2), (tI a3)] (tB r) := by
  refine call_of_code Tryd.func9 rfl Tryd.ntmps9 rfl (fun L w => ?_)
  change OkC _ _ _ [(0, (tL 1 lI a0)), (1, (tI a1)), (2, (tI a2)), (3, (tI a3))] (L)
  unfold law33_LivenessSubset at h
  refine okC_seq ?_
  refine okC_region ?_
  refine okL_step 8 (tB false) rfl rfl (does_assign rfl) ?_
  refine okL_nil ?_
  refine okX_next ?_
  refine okC_seq ?_
  refine okC_cov [(0, (tL 1 lI a0)), (1, (tI a1)), (2, (tI a2)), (3, (tI a3))] (cc rfl (cc rfl (cc rfl (cc rfl cn)))) ?_
  obtain ⟨l1, hs2, h⟩ := bs h
  obtain ⟨r3, hc4, h⟩ := bs h
  obtain ⟨r5, hc6, h⟩ := bs h
  refine okC_draw 9 [some (18, (tL 1 lI a0)), some (19, (tL 1 lI a0)), some (20, (tI ((a0).length : Int))), some (21, (tI (if 36 < ((a0).length : Int) then 36 else ((a0).length : Int)))), some (22, (tL 1 lI l1)), some (23, (tI a1)), some (24, (tI r3)), some (25, (Ty.agg [(tI r5.Params), (tI r5.Regs), (tL 5 Block.ty r5.Blocks)])), none] ⟨([] : List Item), ([] : List Item), []⟩ [8] mixed rfl rfl (by kernel_rfl) rfl (by kernel_rfl) rfl rfl rfl (fun _ h => nomatch h) (fun _ h => nomatch h) rfl (by kernel_rfl) (.inr ⟨by kernel_rfl, by kernel_rfl⟩) (by kernel_rfl) (by kernel_rfl) (dc (draw_plain rfl (does_move rfl)) (dc (draw_plain rfl (does_move rfl)) (dc (draw_plain rfl (does_len (sz := 1) (f := lI) (l := a0) rfl Tryd.underlying31 rfl)) (dc (draw_plain rfl (does_min rfl rfl)) (dc (draw_plain rfl (does_subHi (sz := 1) (f := lI) (l := a0) l1 hs2 Tryd.underlying31 Tryd.sizeOf3 rfl rfl)) (dc (draw_plain rfl (does_move rfl)) (dc (draw_plain rfl (does_call0 (c_keep_Pick a1 3 r3 hc4) rfl Tryd.call29 rfl)) (dc (draw_plain rfl (does_call0 (c_keep2_VFunc K l1 r3 r5 hc6) rfl Tryd.call28 rfl)) (ds (dn)))))))))) ?_
  refine ch_step [8] rfl (ap_cons (ch_at _ rfl rfl (doesO_alloc [(tI 0), (tI 0), (Ty.val (.slice none 0 0))] Tryd.zeroValue27 (part_of (sub_agg [(.int .i64 0), (.int .i64 0), (.slice none 0 0)] rfl) (part_agg _)) (fun g7 => ?_))) (ap_nil))
  refine ⟨⟨(fun _ h => nomatch h), .inr (fun _ h => nomatch h)⟩, ?_⟩
  refine ch_end ?_
  change OkL _ _ _ _ [(18, (tL 1 lI a0)), (19, (tL 1 lI a0)), (20, (tI ((a0).length : Int))), (21, (tI (if 36 < ((a0).length : Int) then 36 else ((a0).length : Int)))), (22, (tL 1 lI l1)), (23, (tI a1)), (24, (tI r3)), (25, (Ty.agg [(tI r5.Params), (tI r5.Regs), (tL 5 Block.ty r5.Blocks)])), (9, (pAt g7 0)), (0, (tL 1 lI a0)), (1, (tI a1)), (2, (tI a2)), (3, (tI a3))] (Item.blk g7 27 [(tI 0), (tI 0), (Ty.val (.slice none 0 0))] :: L)
  refine okL_stepU rfl (doesO_storeB (ps := [(tI r5.Params), (tI r5.Regs), (tL 5 Block.ty r5.Blocks)]) 0 [(tI r5.Params), (tI r5.Regs), (tL 5 Block.ty r5.Blocks)] (Item.blk g7 27 [(tI r5.Params), (tI r5.Regs), (tL 5 Block.ty r5.Blocks)] :: L) rfl rfl (part_agg _) Tryd.sizeOf27 rfl rfl rfl rfl ?_)
  refine okL_nil ?_
  refine okX_next ?_
  refine okC_seq ?_
  refine okC_region ?_
  refine okL_step 26 (Ty.agg [(tI r5.Params), (tI r5.Regs), (tL 5 Block.ty r5.Blocks)]) rfl rfl (does_loadBA [(tI r5.Params), (tI r5.Regs), (tL 5 Block.ty r5.Blocks)] Tryd.isAgg27 Tryd.sizeOf27 rfl 0 rfl rfl rfl) ?_
  refine okL_stepO 10 rfl rfl (doesO_alloc [(tI 0), (tI 0), (Ty.val (.slice none 0 0))] Tryd.zeroValue27 (part_of (sub_agg [(.int .i64 0), (.int .i64 0), (.slice none 0 0)] rfl) (part_agg _)) (fun g8 => ?_))
  refine okL_stepU rfl (doesO_storeB (ps := [(tI r5.Params), (tI r5.Regs), (tL 5 Block.ty r5.Blocks)]) 0 [(tI r5.Params), (tI r5.Regs), (tL 5 Block.ty r5.Blocks)] (Item.blk g8 27 [(tI r5.Params), (tI r5.Regs), (tL 5 Block.ty r5.Blocks)] :: Item.blk g7 27 [(tI r5.Params), (tI r5.Regs), (tL 5 Block.ty r5.Blocks)] :: L) rfl rfl (part_agg _) Tryd.sizeOf27 rfl rfl rfl rfl ?_)
  refine okL_nil ?_
  refine okX_next ?_
  refine okC_seq ?_
  refine okC_region ?_
  refine okL_step 27 (pAt g7 2) rfl rfl (does_fieldAddrP 2 Tryd.underlying27 rfl Tryd.sizeOf25 rfl rfl) ?_
  refine okL_step 28 (tL 5 Block.ty r5.Blocks) rfl rfl (does_loadB1 Tryd.isAgg25 rfl 1 rfl rfl) ?_
  obtain ⟨l9, ha10, h⟩ := bs h
  refine okL_stepO 29 rfl rfl (doesO_appendN (f := Block.ty) (m := r5.Blocks) el25 l9 ha10 rfl rfl (fun v11 => ?_))
  refine okL_step 30 (pAt g8 2) rfl rfl (does_fieldAddrP 2 Tryd.underlying27 rfl Tryd.sizeOf25 rfl rfl) ?_
  refine okL_stepU rfl (doesO_storeB (ps := [(Ty.own v11)]) 1 [(tI r5.Params), (tI r5.Regs), (Ty.own v11)] (rowL v11 43 5 Block.ty l9 :: Item.blk g8 27 [(tI r5.Params), (tI r5.Regs), (Ty.own v11)] :: Item.blk g7 27 [(tI r5.Params), (tI r5.Regs), (tL 5 Block.ty r5.Blocks)] :: L) rfl rfl (part_one (one_own _)) Tryd.sizeOf25 rfl rfl rfl rfl ?_)
  refine okL_nil ?_
  refine okX_next ?_
  refine okC_seq ?_
  refine okC_region ?_
  refine okL_step 31 (tI a2) rfl rfl (does_move rfl) ?_
  refine okL_step 32 (pAt g7 2) rfl rfl (does_fieldAddrP 2 Tryd.underlying27 rfl Tryd.sizeOf25 rfl rfl) ?_
  refine okL_step 33 (tL 5 Block.ty r5.Blocks) rfl rfl (does_loadB1 Tryd.isAgg25 rfl 2 rfl rfl) ?_
  refine okL_step 34 (tI ((r5.Blocks).length : Int)) rfl rfl (does_len (sz := 5) (f := Block.ty) (l := r5.Blocks) rfl Tryd.underlying25 rfl) ?_
  obtain ⟨r12, hc13, h⟩ := bs h
  refine okL_step 35 (tI r12) rfl rfl (does_call0 (c_keep_Pick a2 ((r5.Blocks).length : Int) r12 hc13) rfl Tryd.call29 rfl) ?_
  refine okL_step 11 (tI r12) rfl rfl (does_assign rfl) ?_
  refine okL_nil ?_
  refine okX_next ?_
  refine okC_seq ?_
  refine okC_region ?_
  refine okL_step 36 (pAt g8 2) rfl rfl (does_fieldAddrP 2 Tryd.underlying27 rfl Tryd.sizeOf25 rfl rfl) ?_
  refine okL_step 37 (Ty.own v11) rfl rfl (does_loadB1 Tryd.isAgg25 rfl 1 rfl rfl) ?_
  refine okL_step 38 (tI r12) rfl rfl (does_move rfl) ?_
  obtain ⟨y14, hi15, h⟩ := bs h
  refine okL_step 39 (Ty.rptr v11 (r12.toNat * 5)) rfl rfl (does_indexR (f := Block.ty) (l := l9) (m := r12) el25 0 y14 hi15 rfl rfl rfl) ?_
  refine okL_step 40 (Ty.agg [(tL 6 VInstr.ty y14.Instrs), (tI y14.End), (tI y14.Reg), (tI y14.Target), (tI y14.Else)]) rfl rfl (does_loadRA (sz := 5) (f := Block.ty) (l := l9) [(tL 6 VInstr.ty y14.Instrs), (tI y14.End), (tI y14.Reg), (tI y14.Target), (tI y14.Else)] 0 y14 0 Tryd.isAgg43 Tryd.sizeOf43 hi15 rfl rfl rfl rfl) ?_
  refine okL_stepO 12 rfl rfl (doesO_alloc [(Ty.val (.slice none 0 0)), (tI 0), (tI 0), (tI 0), (tI 0)] Tryd.zeroValue43 (part_of (sub_agg [(.slice none 0 0), (.int .i64 0), (.int .i64 0), (.int .i64 0), (.int .i64 0)] rfl) (part_agg _)) (fun g16 => ?_))
  refine okL_stepU rfl (doesO_storeB (ps := [(tL 6 VInstr.ty y14.Instrs), (tI y14.End), (tI y14.Reg), (tI y14.Target), (tI y14.Else)]) 0 [(tL 6 VInstr.ty y14.Instrs), (tI y14.End), (tI y14.Reg), (tI y14.Target), (tI y14.Else)] (Item.blk g16 43 [(tL 6 VInstr.ty y14.Instrs), (tI y14.End), (tI y14.Reg), (tI y14.Target), (tI y14.Else)] :: rowL v11 43 5 Block.ty l9 :: Item.blk g8 27 [(tI r5.Params), (tI r5.Regs), (Ty.own v11)] :: Item.blk g7 27 [(tI r5.Params), (tI r5.Regs), (tL 5 Block.ty r5.Blocks)] :: L) rfl rfl (part_agg _) Tryd.sizeOf43 rfl rfl rfl rfl ?_)
  refine okL_nil ?_
  refine okX_next ?_
  refine okC_seq ?_
  refine okC_seq ?_
  refine okC_region ?_
  refine okL_step 41 (pAt g16 1) rfl rfl (does_fieldAddrP 1 Tryd.underlying43 rfl Tryd.sizeOf3 rfl rfl) ?_
  refine okL_step 42 (tI y14.End) rfl rfl (does_loadB1 Tryd.isAgg3 rfl 0 rfl rfl) ?_
  refine okL_step 43 (tB (y14.End != 3)) rfl rfl (does_neq rfl rfl) ?_
  refine okL_nil ?_
  refine okX_next ?_
  refine okC_cond (b := (y14.End != 3)) rfl (fun hb17 => ?_) (fun hb17 => ?_)
  · replace h := ct hb17 h
    refine okC_seq ?_
    refine okC_region ?_
    obtain ⟨r18, hc19, h⟩ := bs h
    refine okL_step 44 (tB r18) rfl rfl (does_call0 (c_law33_LivenessExamples K r18 hc19) rfl Tryd.call3 rfl) ?_
    refine okL_step 8 (tB r18) rfl rfl (does_assign rfl) ?_
    refine okL_nil ?_
    refine okX_next ?_
    refine okC_ret ?_
    refine okX_then_ret ?_
    obtain rfl := (smh h).symm
    refine okX_items [Item.blk g16 43 [(tL 6 VInstr.ty y14.Instrs), (tI y14.End), (tI y14.Reg), (tI y14.Target), (tI y14.Else)], rowL v11 43 5 Block.ty l9, Item.blk g8 27 [(tI r5.Params), (tI r5.Regs), (Ty.own v11)], Item.blk g7 27 [(tI r5.Params), (tI r5.Regs), (tL 5 Block.ty r5.Blocks)]] (L) (pm 0 rfl (pm 0 rfl (pm 0 rfl (pm 0 rfl (pr _))))) ?_
    exact okX_ret1 () Tryd.results9 rfl rfl
  · replace h := cf hb17 h
    refine okC_skip ?_
    refine okX_next ?_
    refine okC_seq ?_
    refine okC_region ?_
    refine okL_step 45 (pAt g8 2) rfl rfl (does_fieldAddrP 2 Tryd.underlying27 rfl Tryd.sizeOf25 rfl rfl) ?_
    refine okL_step 46 (Ty.own v11) rfl rfl (does_loadB1 Tryd.isAgg25 rfl 2 rfl rfl) ?_
    refine okL_step 47 (pAt g16 2) rfl rfl (does_fieldAddrP 2 Tryd.underlying43 rfl Tryd.sizeOf3 rfl rfl) ?_
    refine okL_step 48 (tI y14.Reg) rfl rfl (does_loadB1 Tryd.isAgg3 rfl 0 rfl rfl) ?_
    refine okL_step 49 (Ty.agg [(Ty.val (.slice none 0 0)), (tI 3), (tI y14.Reg), (tI 0), (tI 0)]) rfl rfl (does_build [(Ty.val (.slice none 0 0)), (tI 3), (tI y14.Reg), (tI 0), (tI 0)] Tryd.zeroValue43 Tryd.underlying43 (places43 _ Tryd.underlying43) rfl (fc [(tI 3)] 1 rfl (part_one (one_i _)) rfl rfl (fc [(tI y14.Reg)] 2 rfl (part_one (one_i _)) rfl rfl (fn_ rfl)))) ?_
    refine okL_step 50 (tL 5 Block.ty ([(⟨[], 3, y14.Reg, 0, 0⟩ : Block)] : List Block)) rfl rfl (does_buildSlice (f := Block.ty) ([(⟨[], 3, y14.Reg, 0, 0⟩ : Block)] : List Block) [(tL 6 VInstr.ty []), (tI 3), (tI y14.Reg), (tI 0), (tI 0)] el25 rfl rfl rfl (fc [(tL 6 VInstr.ty []), (tI 3), (tI y14.Reg), (tI 0), (tI 0)] 0 rfl (part_sub (part_agg _) (.cons (sub_nil _) (.cons (sub_refl _) (.cons (sub_refl _) (.cons (sub_refl _) (.cons (sub_refl _) SubL.nil)))))) rfl rfl (fn_ rfl)) rfl (fun _ => rfl)) ?_
    obtain ⟨l20, ha21, h⟩ := bs h
    refine okL_stepO 51 rfl rfl (doesO_append (f := Block.ty) (l := l9) (m := ([(⟨[], 3, y14.Reg, 0, 0⟩ : Block)] : List Block)) el25 1 l20 (fun v22 => Item.blk g16 43 [(tL 6 VInstr.ty y14.Instrs), (tI y14.End), (tI y14.Reg), (tI y14.Target), (tI y14.Else)] :: rowL v22 43 5 Block.ty l20 :: Item.blk g8 27 [(tI r5.Params), (tI r5.Regs), (Ty.own v11)] :: Item.blk g7 27 [(tI r5.Params), (tI r5.Regs), (tL 5 Block.ty r5.Blocks)] :: L) ha21 rfl rfl rfl (fun _ => rfl) (fun v22 => ?_))
    refine okL_step 52 (pAt g8 2) rfl rfl (does_fieldAddrP 2 Tryd.underlying27 rfl Tryd.sizeOf25 rfl rfl) ?_
    refine okL_stepU rfl (doesO_storeB (ps := [(Ty.own v22)]) 2 [(tI r5.Params), (tI r5.Regs), (Ty.own v22)] (Item.blk g16 43 [(tL 6 VInstr.ty y14.Instrs), (tI y14.End), (tI y14.Reg), (tI y14.Target), (tI y14.Else)] :: rowL v22 43 5 Block.ty l20 :: Item.blk g8 27 [(tI r5.Params), (tI r5.Regs), (Ty.own v22)] :: Item.blk g7 27 [(tI r5.Params), (tI r5.Regs), (tL 5 Block.ty r5.Blocks)] :: L) rfl rfl (part_one (one_own _)) Tryd.sizeOf25 rfl rfl rfl rfl ?_)
    refine okL_nil ?_
    refine okX_next ?_
    refine okC_seq ?_
    refine okC_cov [(3, (tI a3)), (9, (pAt g7 0)), (10, (pAt g8 0)), (11, (tI r12))] (cc rfl (cc rfl (cc rfl (cc rfl cn)))) ?_
    obtain ⟨r23, hc24, h⟩ := bs h
    obtain ⟨y25, hi26, h⟩ := bs h
    obtain ⟨y27, hi28, h⟩ := bs h
    obtain ⟨y29, hi30, h⟩ := bs h
    refine okC_draw 29 [some (53, (pAt g8 2)), some (54, (Ty.own v22)), some (55, (tI r12)), some (56, (pAt g8 2)), some (57, (Ty.own v22)), some (58, (tI r12)), some (59, (pAt g8 2)), some (60, (Ty.own v22)), some (61, (tI r12)), some (62, (pAt g8 2)), some (63, (Ty.own v22)), some (64, (tI r12)), some (65, (tI a3)), some (66, (pAt g7 1)), some (67, (tI r5.Regs)), some (68, (tI r23)), some (69, (tI r12)), some (70, (pAt g7 2)), some (71, (tL 5 Block.ty r5.Blocks)), some (72, (tI ((r5.Blocks).length : Int))), some (73, (Ty.rptr v22 (r12.toNat * 5))), some (74, (Ty.rptr v22 (r12.toNat * 5 + 1))), none, none, none, none, none, none, none] ⟨Item.blk g16 43 [(tL 6 VInstr.ty y14.Instrs), (tI y14.End), (tI y14.Reg), (tI y14.Target), (tI y14.Else)] :: Item.blk g8 27 [(tI r5.Params), (tI r5.Regs), (Ty.own v22)] :: Item.blk g7 27 [(tI r5.Params), (tI r5.Regs), (tL 5 Block.ty r5.Blocks)] :: ([] : List Item), Item.blk g16 43 [(tL 6 VInstr.ty y14.Instrs), (tI y14.End), (tI y14.Reg), (tI y14.Target), (tI y14.Else)] :: rowL v22 43 5 Block.ty l20 :: Item.blk g8 27 [(tI r5.Params), (tI r5.Regs), (Ty.own v22)] :: Item.blk g7 27 [(tI r5.Params), (tI r5.Regs), (tL 5 Block.ty r5.Blocks)] :: ([] : List Item), [22, 25, 28]⟩ [22, 23, 24, 25, 26, 27, 28] mixed rfl rfl (by kernel_rfl) rfl (by kernel_rfl) rfl rfl rfl (fun _ h => List.Sublist.subset (.cons_cons _ (.cons _ (.cons_cons _ (.cons_cons _ (List.nil_sublist _))))) h) (fun _ h => List.Sublist.subset (.cons_cons _ (.cons_cons _ (.cons_cons _ (.cons_cons _ (List.nil_sublist _))))) h) rfl (by kernel_rfl) (.inr ⟨by kernel_rfl, by kernel_rfl⟩) (by kernel_rfl) (by kernel_rfl) (dc (draw_plain rfl (does_fieldAddrP 2 Tryd.underlying27 rfl Tryd.sizeOf25 rfl rfl)) (dc (draw_plain rfl (does_loadB1 Tryd.isAgg25 rfl 1 rfl rfl)) (dc (draw_plain rfl (does_move rfl)) (dc (draw_plain rfl (does_fieldAddrP 2 Tryd.underlying27 rfl Tryd.sizeOf25 rfl rfl)) (dc (draw_plain rfl (does_loadB1 Tryd.isAgg25 rfl 1 rfl rfl)) (dc (draw_plain rfl (does_move rfl)) (dc (draw_plain rfl (does_fieldAddrP 2 Tryd.underlying27 rfl Tryd.sizeOf25 rfl rfl)) (dc (draw_plain rfl (does_loadB1 Tryd.isAgg25 rfl 1 rfl rfl)) (dc (draw_plain rfl (does_move rfl)) (dc (draw_plain rfl (does_fieldAddrP 2 Tryd.underlying27 rfl Tryd.sizeOf25 rfl rfl)) (dc (draw_plain rfl (does_loadB1 Tryd.isAgg25 rfl 1 rfl rfl)) (dc (draw_plain rfl (does_move rfl)) (dc (draw_plain rfl (does_move rfl)) (dc (draw_plain rfl (does_fieldAddrP 1 Tryd.underlying27 rfl Tryd.sizeOf3 rfl rfl)) (dc (draw_plain rfl (does_loadB1 Tryd.isAgg3 rfl 2 rfl rfl)) (dc (draw_plain rfl (does_call0 (c_keep_Pick a3 r5.Regs r23 hc24) rfl Tryd.call29 rfl)) (dc (draw_plain rfl (does_move rfl)) (dc (draw_plain rfl (does_fieldAddrP 2 Tryd.underlying27 rfl Tryd.sizeOf25 rfl rfl)) (dc (draw_plain rfl (does_loadB1 Tryd.isAgg25 rfl 2 rfl rfl)) (dc (draw_plain rfl (does_len (sz := 5) (f := Block.ty) (l := r5.Blocks) rfl Tryd.underlying25 rfl)) (de (by kernel_rfl) (draw_plain rfl (does_indexR (f := Block.ty) (l := l20) (m := r12) el25 1 y25 hi26 rfl rfl rfl)) (de (by kernel_rfl) (draw_plain rfl (does_fieldAddrR (r12.toNat * 5 + 1) Tryd.underlying43 rfl Tryd.sizeOf3 rfl rfl)) (ds (ds (ds (ds (ds (ds (ds (dn)))))))))))))))))))))))))))))) ?_
    refine ch_step [22] rfl (ap_cons (ch_at _ rfl rfl (doesO_storeR (f := Block.ty) (l := l20) (sz := 5) (ps := [(tI 2)]) (y0 := y25) (y1 := (⟨y25.Instrs, 2, y25.Reg, y25.Target, y25.Else⟩ : Block)) (m := r12) 1 1 (l20.set r12.toNat (⟨y25.Instrs, 2, y25.Reg, y25.Target, y25.Else⟩ : Block)) (Item.blk g16 43 [(tL 6 VInstr.ty y14.Instrs), (tI y14.End), (tI y14.Reg), (tI y14.Target), (tI y14.Else)] :: rowL v22 43 5 Block.ty (l20.set r12.toNat (⟨y25.Instrs, 2, y25.Reg, y25.Target, y25.Else⟩ : Block)) :: Item.blk g8 27 [(tI r5.Params), (tI r5.Regs), (Ty.own v22)] :: Item.blk g7 27 [(tI r5.Params), (tI r5.Regs), (tL 5 Block.ty r5.Blocks)] :: L) rfl rfl (part_one (one_i _)) Tryd.sizeOf3 rfl hi26 rfl rfl rfl rfl rfl ?_)) (ap_nil))
    refine ⟨⟨(fun _ h => List.Sublist.subset (.cons_cons _ (.cons _ (.cons_cons _ (.cons_cons _ (List.nil_sublist _))))) h), .inl rfl⟩, ?_⟩
    refine ch_step [23] rfl (ap_cons (ch_at _ rfl rfl (doesO_of (does_indexR (f := Block.ty) (l := (l20.set r12.toNat (⟨y25.Instrs, 2, y25.Reg, y25.Target, y25.Else⟩ : Block))) (m := r12) el25 1 y27 hi28 rfl rfl rfl) ?_)) (ap_nil))
    refine ⟨⟨(fun _ h => List.Sublist.subset (.cons_cons _ (.cons _ (.cons_cons _ (.cons_cons _ (List.nil_sublist _))))) h), .inl rfl⟩, ?_⟩
    refine ch_step [24] rfl (ap_cons (ch_at _ rfl rfl (doesO_of (does_fieldAddrR (r12.toNat * 5 + 2) Tryd.underlying43 rfl Tryd.sizeOf3 rfl rfl) ?_)) (ap_nil))
    refine ⟨⟨(fun _ h => List.Sublist.subset (.cons_cons _ (.cons _ (.cons_cons _ (.cons_cons _ (List.nil_sublist _))))) h), .inl rfl⟩, ?_⟩
    refine ch_step [25] rfl (ap_cons (ch_at _ rfl rfl (doesO_storeR (f := Block.ty) (l := (l20.set r12.toNat (⟨y25.Instrs, 2, y25.Reg, y25.Target, y25.Else⟩ : Block))) (sz := 5) (ps := [(tI r23)]) (y0 := y27) (y1 := (⟨y27.Instrs, y27.End, r23, y27.Target, y27.Else⟩ : Block)) (m := r12) 1 2 ((l20.set r12.toNat (⟨y25.Instrs, 2, y25.Reg, y25.Target, y25.Else⟩ : Block)).set r12.toNat (⟨y27.Instrs, y27.End, r23, y27.Target, y27.Else⟩ : Block)) (Item.blk g16 43 [(tL 6 VInstr.ty y14.Instrs), (tI y14.End), (tI y14.Reg), (tI y14.Target), (tI y14.Else)] :: rowL v22 43 5 Block.ty ((l20.set r12.toNat (⟨y25.Instrs, 2, y25.Reg, y25.Target, y25.Else⟩ : Block)).set r12.toNat (⟨y27.Instrs, y27.End, r23, y27.Target, y27.Else⟩ : Block)) :: Item.blk g8 27 [(tI r5.Params), (tI r5.Regs), (Ty.own v22)] :: Item.blk g7 27 [(tI r5.Params), (tI r5.Regs), (tL 5 Block.ty r5.Blocks)] :: L) rfl rfl (part_one (one_i _)) Tryd.sizeOf3 rfl hi28 rfl rfl rfl rfl rfl ?_)) (ap_nil))
    refine ⟨⟨(fun _ h => List.Sublist.subset (.cons_cons _ (.cons _ (.cons_cons _ (.cons_cons _ (List.nil_sublist _))))) h), .inl rfl⟩, ?_⟩
    refine ch_step [26] rfl (ap_cons (ch_at _ rfl rfl (doesO_of (does_indexR (f := Block.ty) (l := ((l20.set r12.toNat (⟨y25.Instrs, 2, y25.Reg, y25.Target, y25.Else⟩ : Block)).set r12.toNat (⟨y27.Instrs, y27.End, r23, y27.Target, y27.Else⟩ : Block))) (m := r12) el25 1 y29 hi30 rfl rfl rfl) ?_)) (ap_nil))
    refine ⟨⟨(fun _ h => List.Sublist.subset (.cons_cons _ (.cons _ (.cons_cons _ (.cons_cons _ (List.nil_sublist _))))) h), .inl rfl⟩, ?_⟩
    refine ch_step [27] rfl (ap_cons (ch_at _ rfl rfl (doesO_of (does_fieldAddrR (r12.toNat * 5 + 3) Tryd.underlying43 rfl Tryd.sizeOf3 rfl rfl) ?_)) (ap_nil))
    refine ⟨⟨(fun _ h => List.Sublist.subset (.cons_cons _ (.cons _ (.cons_cons _ (.cons_cons _ (List.nil_sublist _))))) h), .inl rfl⟩, ?_⟩
    refine ch_step [28] rfl (ap_cons (ch_at _ rfl rfl (doesO_storeR (f := Block.ty) (l := ((l20.set r12.toNat (⟨y25.Instrs, 2, y25.Reg, y25.Target, y25.Else⟩ : Block)).set r12.toNat (⟨y27.Instrs, y27.End, r23, y27.Target, y27.Else⟩ : Block))) (sz := 5) (ps := [(tI r12)]) (y0 := y29) (y1 := (⟨y29.Instrs, y29.End, y29.Reg, r12, y29.Else⟩ : Block)) (m := r12) 1 3 (((l20.set r12.toNat (⟨y25.Instrs, 2, y25.Reg, y25.Target, y25.Else⟩ : Block)).set r12.toNat (⟨y27.Instrs, y27.End, r23, y27.Target, y27.Else⟩ : Block)).set r12.toNat (⟨y29.Instrs, y29.End, y29.Reg, r12, y29.Else⟩ : Block)) (Item.blk g16 43 [(tL 6 VInstr.ty y14.Instrs), (tI y14.End), (tI y14.Reg), (tI y14.Target), (tI y14.Else)] :: rowL v22 43 5 Block.ty (((l20.set r12.toNat (⟨y25.Instrs, 2, y25.Reg, y25.Target, y25.Else⟩ : Block)).set r12.toNat (⟨y27.Instrs, y27.End, r23, y27.Target, y27.Else⟩ : Block)).set r12.toNat (⟨y29.Instrs, y29.End, y29.Reg, r12, y29.Else⟩ : Block)) :: Item.blk g8 27 [(tI r5.Params), (tI r5.Regs), (Ty.own v22)] :: Item.blk g7 27 [(tI r5.Params), (tI r5.Regs), (tL 5 Block.ty r5.Blocks)] :: L) rfl rfl (part_one (one_i _)) Tryd.sizeOf3 rfl hi30 rfl rfl rfl rfl rfl ?_)) (ap_nil))
    refine ⟨⟨(fun _ h => List.Sublist.subset (.cons_cons _ (.cons _ (.cons_cons _ (.cons_cons _ (List.nil_sublist _))))) h), .inl rfl⟩, ?_⟩
    refine ch_end ?_
    change OkL _ _ _ _ [(53, (pAt g8 2)), (54, (Ty.own v22)), (55, (tI r12)), (56, (pAt g8 2)), (57, (Ty.own v22)), (58, (tI r12)), (59, (pAt g8 2)), (60, (Ty.own v22)), (61, (tI r12)), (62, (pAt g8 2)), (63, (Ty.own v22)), (64, (tI r12)), (65, (tI a3)), (66, (pAt g7 1)), (67, (tI r5.Regs)), (68, (tI r23)), (69, (tI r12)), (70, (pAt g7 2)), (71, (tL 5 Block.ty r5.Blocks)), (72, (tI ((r5.Blocks).length : Int))), (73, (Ty.rptr v22 (r12.toNat * 5))), (74, (Ty.rptr v22 (r12.toNat * 5 + 1))), (78, (Ty.rptr v22 (r12.toNat * 5 + 3))), (77, (Ty.rptr v22 (r12.toNat * 5))), (76, (Ty.rptr v22 (r12.toNat * 5 + 2))), (75, (Ty.rptr v22 (r12.toNat * 5))), (3, (tI a3)), (9, (pAt g7 0)), (10, (pAt g8 0)), (11, (tI r12))] (Item.blk g16 43 [(tL 6 VInstr.ty y14.Instrs), (tI y14.End), (tI y14.Reg), (tI y14.Target), (tI y14.Else)] :: rowL v22 43 5 Block.ty (((l20.set r12.toNat (⟨y25.Instrs, 2, y25.Reg, y25.Target, y25.Else⟩ : Block)).set r12.toNat (⟨y27.Instrs, y27.End, r23, y27.Target, y27.Else⟩ : Block)).set r12.toNat (⟨y29.Instrs, y29.End, y29.Reg, r12, y29.Else⟩ : Block)) :: Item.blk g8 27 [(tI r5.Params), (tI r5.Regs), (Ty.own v22)] :: Item.blk g7 27 [(tI r5.Params), (tI r5.Regs), (tL 5 Block.ty r5.Blocks)] :: L)
    obtain ⟨y31, hi32, h⟩ := bs h
    refine okL_step 79 (Ty.rptr v22 (r12.toNat * 5)) rfl rfl (does_indexR (f := Block.ty) (l := (((l20.set r12.toNat (⟨y25.Instrs, 2, y25.Reg, y25.Target, y25.Else⟩ : Block)).set r12.toNat (⟨y27.Instrs, y27.End, r23, y27.Target, y27.Else⟩ : Block)).set r12.toNat (⟨y29.Instrs, y29.End, y29.Reg, r12, y29.Else⟩ : Block))) (m := r12) el25 1 y31 hi32 rfl rfl rfl) ?_
    refine okL_step 80 (Ty.rptr v22 (r12.toNat * 5 + 4)) rfl rfl (does_fieldAddrR (r12.toNat * 5 + 4) Tryd.underlying43 rfl Tryd.sizeOf3 rfl rfl) ?_
    refine okL_stepU rfl (doesO_storeR (f := Block.ty) (l := (((l20.set r12.toNat (⟨y25.Instrs, 2, y25.Reg, y25.Target, y25.Else⟩ : Block)).set r12.toNat (⟨y27.Instrs, y27.End, r23, y27.Target, y27.Else⟩ : Block)).set r12.toNat (⟨y29.Instrs, y29.End, y29.Reg, r12, y29.Else⟩ : Block))) (sz := 5) (ps := [(tI ((r5.Blocks).length : Int))]) (y0 := y31) (y1 := (⟨y31.Instrs, y31.End, y31.Reg, y31.Target, ((r5.Blocks).length : Int)⟩ : Block)) (m := r12) 1 4 ((((l20.set r12.toNat (⟨y25.Instrs, 2, y25.Reg, y25.Target, y25.Else⟩ : Block)).set r12.toNat (⟨y27.Instrs, y27.End, r23, y27.Target, y27.Else⟩ : Block)).set r12.toNat (⟨y29.Instrs, y29.End, y29.Reg, r12, y29.Else⟩ : Block)).set r12.toNat (⟨y31.Instrs, y31.End, y31.Reg, y31.Target, ((r5.Blocks).length : Int)⟩ : Block)) (Item.blk g16 43 [(tL 6 VInstr.ty y14.Instrs), (tI y14.End), (tI y14.Reg), (tI y14.Target), (tI y14.Else)] :: rowL v22 43 5 Block.ty ((((l20.set r12.toNat (⟨y25.Instrs, 2, y25.Reg, y25.Target, y25.Else⟩ : Block)).set r12.toNat (⟨y27.Instrs, y27.End, r23, y27.Target, y27.Else⟩ : Block)).set r12.toNat (⟨y29.Instrs, y29.End, y29.Reg, r12, y29.Else⟩ : Block)).set r12.toNat (⟨y31.Instrs, y31.End, y31.Reg, y31.Target, ((r5.Blocks).length : Int)⟩ : Block)) :: Item.blk g8 27 [(tI r5.Params), (tI r5.Regs), (Ty.own v22)] :: Item.blk g7 27 [(tI r5.Params), (tI r5.Regs), (tL 5 Block.ty r5.Blocks)] :: L) rfl rfl (part_one (one_i _)) Tryd.sizeOf3 rfl hi32 rfl rfl rfl rfl rfl ?_)
    refine okL_nil ?_
    refine okX_next ?_
    refine okC_seq ?_
    refine okC_region ?_
    refine okL_step 82 (Ty.agg [(tI r5.Params), (tI r5.Regs), (tL 5 Block.ty r5.Blocks)]) rfl rfl (does_loadBA [(tI r5.Params), (tI r5.Regs), (tL 5 Block.ty r5.Blocks)] Tryd.isAgg27 Tryd.sizeOf27 rfl 3 rfl rfl rfl) ?_
    obtain ⟨r33, hc34, h⟩ := bs h
    refine okL_step 83 (Ty.tup [(tL 1 lIs r33.1), (tL 1 lIs r33.2)]) rfl rfl (does_call0 (c_liveness_Blocks K r5 r33 hc34) rfl Tryd.call22 rfl) ?_
    refine okL_step 81 (Ty.tup [(tL 1 lIs r33.1), (tL 1 lIs r33.2)]) rfl rfl (does_move rfl) ?_
    refine okL_step 84 (tL 1 lIs r33.1) rfl rfl (does_extract rfl rfl) ?_
    refine okL_step 85 (tL 1 lIs r33.2) rfl rfl (does_extract rfl rfl) ?_
    refine okL_step 13 (tL 1 lIs r33.1) rfl rfl (does_assign rfl) ?_
    refine okL_step 14 (tL 1 lIs r33.2) rfl rfl (does_assign rfl) ?_
    refine okL_nil ?_
    refine okX_next ?_
    refine okC_seq ?_
    refine okC_region ?_
    refine okL_publishB 2 [54, 57, 60, 63] [(tI r5.Params), (tI r5.Regs), (tL 5 Block.ty ((((l20.set r12.toNat (⟨y25.Instrs, 2, y25.Reg, y25.Target, y25.Else⟩ : Block)).set r12.toNat (⟨y27.Instrs, y27.End, r23, y27.Target, y27.Else⟩ : Block)).set r12.toNat (⟨y29.Instrs, y29.End, y29.Reg, r12, y29.Else⟩ : Block)).set r12.toNat (⟨y31.Instrs, y31.End, y31.Reg, y31.Target, ((r5.Blocks).length : Int)⟩ : Block)))] (pm 1 rfl (pm 1 rfl (pr _))) rfl (ac rfl (ac rfl (ac rfl (ac rfl an)))) rfl ?_
    refine okL_step 87 (Ty.agg [(tI r5.Params), (tI r5.Regs), (tL 5 Block.ty ((((l20.set r12.toNat (⟨y25.Instrs, 2, y25.Reg, y25.Target, y25.Else⟩ : Block)).set r12.toNat (⟨y27.Instrs, y27.End, r23, y27.Target, y27.Else⟩ : Block)).set r12.toNat (⟨y29.Instrs, y29.End, y29.Reg, r12, y29.Else⟩ : Block)).set r12.toNat (⟨y31.Instrs, y31.End, y31.Reg, y31.Target, ((r5.Blocks).length : Int)⟩ : Block)))]) rfl rfl (does_loadBA [(tI r5.Params), (tI r5.Regs), (tL 5 Block.ty ((((l20.set r12.toNat (⟨y25.Instrs, 2, y25.Reg, y25.Target, y25.Else⟩ : Block)).set r12.toNat (⟨y27.Instrs, y27.End, r23, y27.Target, y27.Else⟩ : Block)).set r12.toNat (⟨y29.Instrs, y29.End, y29.Reg, r12, y29.Else⟩ : Block)).set r12.toNat (⟨y31.Instrs, y31.End, y31.Reg, y31.Target, ((r5.Blocks).length : Int)⟩ : Block)))] Tryd.isAgg27 Tryd.sizeOf27 rfl 0 rfl rfl rfl) ?_
    obtain ⟨r35, hc36, h⟩ := bs h
    refine okL_step 88 (Ty.tup [(tL 1 lIs r35.1), (tL 1 lIs r35.2)]) rfl rfl (does_call0 (c_liveness_Blocks K (⟨r5.Params, r5.Regs, ((((l20.set r12.toNat (⟨y25.Instrs, 2, y25.Reg, y25.Target, y25.Else⟩ : Block)).set r12.toNat (⟨y27.Instrs, y27.End, r23, y27.Target, y27.Else⟩ : Block)).set r12.toNat (⟨y29.Instrs, y29.End, y29.Reg, r12, y29.Else⟩ : Block)).set r12.toNat (⟨y31.Instrs, y31.End, y31.Reg, y31.Target, ((r5.Blocks).length : Int)⟩ : Block))⟩ : VFunc) r35 hc36) rfl Tryd.call22 rfl) ?_
    refine okL_step 86 (Ty.tup [(tL 1 lIs r35.1), (tL 1 lIs r35.2)]) rfl rfl (does_move rfl) ?_
    refine okL_step 89 (tL 1 lIs r35.1) rfl rfl (does_extract rfl rfl) ?_
    refine okL_step 90 (tL 1 lIs r35.2) rfl rfl (does_extract rfl rfl) ?_
    refine okL_step 15 (tL 1 lIs r35.1) rfl rfl (does_assign rfl) ?_
    refine okL_step 16 (tL 1 lIs r35.2) rfl rfl (does_assign rfl) ?_
    refine okL_nil ?_
    refine okX_next ?_
    refine okC_seq ?_
    refine okC_seq ?_
    refine okC_region ?_
    refine okL_step 91 (tL 1 lIs r33.1) rfl rfl (does_move rfl) ?_
    refine okL_step 92 (tI ((r33.1).length : Int)) rfl rfl (does_len (sz := 1) (f := lIs) (l := r33.1) rfl Tryd.underlying22 rfl) ?_
    refine okL_step 93 (pAt g7 2) rfl rfl (does_fieldAddrP 2 Tryd.underlying27 rfl Tryd.sizeOf25 rfl rfl) ?_
    refine okL_step 94 (tL 5 Block.ty r5.Blocks) rfl rfl (does_loadB1 Tryd.isAgg25 rfl 2 rfl rfl) ?_
    refine okL_step 95 (tI ((r5.Blocks).length : Int)) rfl rfl (does_len (sz := 5) (f := Block.ty) (l := r5.Blocks) rfl Tryd.underlying25 rfl) ?_
    refine okL_step 96 (tB (((r33.1).length : Int) != ((r5.Blocks).length : Int))) rfl rfl (does_neq rfl rfl) ?_
    refine okL_step 97 (tB (((r33.1).length : Int) != ((r5.Blocks).length : Int))) rfl rfl (does_move rfl) ?_
    refine okL_meet (X := Bool) 7 (fun x => x = ((((r33.1).length : Int) != ((r5.Blocks).length : Int)) || (((r35.1).length : Int) != ((((((l20.set r12.toNat (⟨y25.Instrs, 2, y25.Reg, y25.Target, y25.Else⟩ : Block)).set r12.toNat (⟨y27.Instrs, y27.End, r23, y27.Target, y27.Else⟩ : Block)).set r12.toNat (⟨y29.Instrs, y29.End, y29.Reg, r12, y29.Else⟩ : Block)).set r12.toNat (⟨y31.Instrs, y31.End, y31.Reg, y31.Target, ((r5.Blocks).length : Int)⟩ : Block))).length : Int)))) (fun x : Bool => [(13, (tL 1 lIs r33.1)), (15, (tL 1 lIs r35.1)), (104, (tB x))]) (fun x : Bool => Item.blk g8 27 [(tI r5.Params), (tI r5.Regs), (tL 5 Block.ty ((((l20.set r12.toNat (⟨y25.Instrs, 2, y25.Reg, y25.Target, y25.Else⟩ : Block)).set r12.toNat (⟨y27.Instrs, y27.End, r23, y27.Target, y27.Else⟩ : Block)).set r12.toNat (⟨y29.Instrs, y29.End, y29.Reg, r12, y29.Else⟩ : Block)).set r12.toNat (⟨y31.Instrs, y31.End, y31.Reg, y31.Target, ((r5.Blocks).length : Int)⟩ : Block)))] :: Item.blk g16 43 [(tL 6 VInstr.ty y14.Instrs), (tI y14.End), (tI y14.Reg), (tI y14.Target), (tI y14.Else)] :: Item.blk g7 27 [(tI r5.Params), (tI r5.Regs), (tL 5 Block.ty r5.Blocks)] :: L) _ rfl ?_ ?_
    · refine okL_split (((r33.1).length : Int) != ((r5.Blocks).length : Int)) (fun hb37 => ?_) (fun hb37 => ?_)
      · refine okL_skip 98 97 (((r33.1).length : Int) != ((r5.Blocks).length : Int)) rfl rfl hb37 rfl rfl ?_
        refine okL_skip 99 97 (((r33.1).length : Int) != ((r5.Blocks).length : Int)) rfl rfl hb37 rfl rfl ?_
        refine okL_skip 100 97 (((r33.1).length : Int) != ((r5.Blocks).length : Int)) rfl rfl hb37 rfl rfl ?_
        refine okL_skip 101 97 (((r33.1).length : Int) != ((r5.Blocks).length : Int)) rfl rfl hb37 rfl rfl ?_
        refine okL_skip 102 97 (((r33.1).length : Int) != ((r5.Blocks).length : Int)) rfl rfl hb37 rfl rfl ?_
        refine okL_skip 103 97 (((r33.1).length : Int) != ((r5.Blocks).length : Int)) rfl rfl hb37 rfl rfl ?_
        refine okL_step 104 (tB true) rfl rfl (does_pick_t (((r33.1).length : Int) != ((r5.Blocks).length : Int)) rfl hb37 rfl) ?_
        refine okL_nil ?_
        exact okX_meet (I := _) true (or_t hb37) (cc rfl (cc rfl (cc rfl cn))) rfl
      · refine okL_guard 98 (tL 1 lIs r35.1) 97 (((r33.1).length : Int) != ((r5.Blocks).length : Int)) rfl rfl hb37 rfl rfl (does_move rfl) ?_
        refine okL_guard 99 (tI ((r35.1).length : Int)) 97 (((r33.1).length : Int) != ((r5.Blocks).length : Int)) rfl rfl hb37 rfl rfl (does_len (sz := 1) (f := lIs) (l := r35.1) rfl Tryd.underlying22 rfl) ?_
        refine okL_guard 100 (pAt g8 2) 97 (((r33.1).length : Int) != ((r5.Blocks).length : Int)) rfl rfl hb37 rfl rfl (does_fieldAddrP 2 Tryd.underlying27 rfl Tryd.sizeOf25 rfl rfl) ?_
        refine okL_guard 101 (tL 5 Block.ty ((((l20.set r12.toNat (⟨y25.Instrs, 2, y25.Reg, y25.Target, y25.Else⟩ : Block)).set r12.toNat (⟨y27.Instrs, y27.End, r23, y27.Target, y27.Else⟩ : Block)).set r12.toNat (⟨y29.Instrs, y29.End, y29.Reg, r12, y29.Else⟩ : Block)).set r12.toNat (⟨y31.Instrs, y31.End, y31.Reg, y31.Target, ((r5.Blocks).length : Int)⟩ : Block))) 97 (((r33.1).length : Int) != ((r5.Blocks).length : Int)) rfl rfl hb37 rfl rfl (does_loadB1 Tryd.isAgg25 rfl 0 rfl rfl) ?_
        refine okL_guard 102 (tI ((((((l20.set r12.toNat (⟨y25.Instrs, 2, y25.Reg, y25.Target, y25.Else⟩ : Block)).set r12.toNat (⟨y27.Instrs, y27.End, r23, y27.Target, y27.Else⟩ : Block)).set r12.toNat (⟨y29.Instrs, y29.End, y29.Reg, r12, y29.Else⟩ : Block)).set r12.toNat (⟨y31.Instrs, y31.End, y31.Reg, y31.Target, ((r5.Blocks).length : Int)⟩ : Block))).length : Int)) 97 (((r33.1).length : Int) != ((r5.Blocks).length : Int)) rfl rfl hb37 rfl rfl (does_len (sz := 5) (f := Block.ty) (l := ((((l20.set r12.toNat (⟨y25.Instrs, 2, y25.Reg, y25.Target, y25.Else⟩ : Block)).set r12.toNat (⟨y27.Instrs, y27.End, r23, y27.Target, y27.Else⟩ : Block)).set r12.toNat (⟨y29.Instrs, y29.End, y29.Reg, r12, y29.Else⟩ : Block)).set r12.toNat (⟨y31.Instrs, y31.End, y31.Reg, y31.Target, ((r5.Blocks).length : Int)⟩ : Block))) rfl Tryd.underlying25 rfl) ?_
        refine okL_guard 103 (tB (((r35.1).length : Int) != ((((((l20.set r12.toNat (⟨y25.Instrs, 2, y25.Reg, y25.Target, y25.Else⟩ : Block)).set r12.toNat (⟨y27.Instrs, y27.End, r23, y27.Target, y27.Else⟩ : Block)).set r12.toNat (⟨y29.Instrs, y29.End, y29.Reg, r12, y29.Else⟩ : Block)).set r12.toNat (⟨y31.Instrs, y31.End, y31.Reg, y31.Target, ((r5.Blocks).length : Int)⟩ : Block))).length : Int))) 97 (((r33.1).length : Int) != ((r5.Blocks).length : Int)) rfl rfl hb37 rfl rfl (does_neq rfl rfl) ?_
        refine okL_step 104 (tB (((r35.1).length : Int) != ((((((l20.set r12.toNat (⟨y25.Instrs, 2, y25.Reg, y25.Target, y25.Else⟩ : Block)).set r12.toNat (⟨y27.Instrs, y27.End, r23, y27.Target, y27.Else⟩ : Block)).set r12.toNat (⟨y29.Instrs, y29.End, y29.Reg, r12, y29.Else⟩ : Block)).set r12.toNat (⟨y31.Instrs, y31.End, y31.Reg, y31.Target, ((r5.Blocks).length : Int)⟩ : Block))).length : Int))) rfl rfl (does_pick_f (((r33.1).length : Int) != ((r5.Blocks).length : Int)) rfl hb37 rfl) ?_
        refine okL_nil ?_
        exact okX_meet (I := _) (((r35.1).length : Int) != ((((((l20.set r12.toNat (⟨y25.Instrs, 2, y25.Reg, y25.Target, y25.Else⟩ : Block)).set r12.toNat (⟨y27.Instrs, y27.End, r23, y27.Target, y27.Else⟩ : Block)).set r12.toNat (⟨y29.Instrs, y29.End, y29.Reg, r12, y29.Else⟩ : Block)).set r12.toNat (⟨y31.Instrs, y31.End, y31.Reg, y31.Target, ((r5.Blocks).length : Int)⟩ : Block))).length : Int)) (or_f hb37) (cc rfl (cc rfl (cc rfl cn))) rfl
    · intro x56 hx
      subst hx
      change OkL _ _ _ _ [(13, (tL 1 lIs r33.1)), (15, (tL 1 lIs r35.1)), (104, (tB ((((r33.1).length : Int) != ((r5.Blocks).length : Int)) || (((r35.1).length : Int) != ((((((l20.set r12.toNat (⟨y25.Instrs, 2, y25.Reg, y25.Target, y25.Else⟩ : Block)).set r12.toNat (⟨y27.Instrs, y27.End, r23, y27.Target, y27.Else⟩ : Block)).set r12.toNat (⟨y29.Instrs, y29.End, y29.Reg, r12, y29.Else⟩ : Block)).set r12.toNat (⟨y31.Instrs, y31.End, y31.Reg, y31.Target, ((r5.Blocks).length : Int)⟩ : Block))).length : Int)))))] (Item.blk g8 27 [(tI r5.Params), (tI r5.Regs), (tL 5 Block.ty ((((l20.set r12.toNat (⟨y25.Instrs, 2, y25.Reg, y25.Target, y25.Else⟩ : Block)).set r12.toNat (⟨y27.Instrs, y27.End, r23, y27.Target, y27.Else⟩ : Block)).set r12.toNat (⟨y29.Instrs, y29.End, y29.Reg, r12, y29.Else⟩ : Block)).set r12.toNat (⟨y31.Instrs, y31.End, y31.Reg, y31.Target, ((r5.Blocks).length : Int)⟩ : Block)))] :: Item.blk g16 43 [(tL 6 VInstr.ty y14.Instrs), (tI y14.End), (tI y14.Reg), (tI y14.Target), (tI y14.Else)] :: Item.blk g7 27 [(tI r5.Params), (tI r5.Regs), (tL 5 Block.ty r5.Blocks)] :: L)
      refine okL_nil ?_
      refine okX_next ?_
      refine okC_cond (b := ((((r33.1).length : Int) != ((r5.Blocks).length : Int)) || (((r35.1).length : Int) != ((((((l20.set r12.toNat (⟨y25.Instrs, 2, y25.Reg, y25.Target, y25.Else⟩ : Block)).set r12.toNat (⟨y27.Instrs, y27.End, r23, y27.Target, y27.Else⟩ : Block)).set r12.toNat (⟨y29.Instrs, y29.End, y29.Reg, r12, y29.Else⟩ : Block)).set r12.toNat (⟨y31.Instrs, y31.End, y31.Reg, y31.Target, ((r5.Blocks).length : Int)⟩ : Block))).length : Int)))) rfl (fun hb38 => ?_) (fun hb38 => ?_)
      · replace h := ct hb38 h
        refine okC_seq ?_
        refine okC_region ?_
        refine okL_step 8 (tB false) rfl rfl (does_assign rfl) ?_
        refine okL_nil ?_
        refine okX_next ?_
        refine okC_ret ?_
        refine okX_then_ret ?_
        obtain rfl := (smh h).symm
        refine okX_items [Item.blk g8 27 [(tI r5.Params), (tI r5.Regs), (tL 5 Block.ty ((((l20.set r12.toNat (⟨y25.Instrs, 2, y25.Reg, y25.Target, y25.Else⟩ : Block)).set r12.toNat (⟨y27.Instrs, y27.End, r23, y27.Target, y27.Else⟩ : Block)).set r12.toNat (⟨y29.Instrs, y29.End, y29.Reg, r12, y29.Else⟩ : Block)).set r12.toNat (⟨y31.Instrs, y31.End, y31.Reg, y31.Target, ((r5.Blocks).length : Int)⟩ : Block)))], Item.blk g16 43 [(tL 6 VInstr.ty y14.Instrs), (tI y14.End), (tI y14.Reg), (tI y14.Target), (tI y14.Else)], Item.blk g7 27 [(tI r5.Params), (tI r5.Regs), (tL 5 Block.ty r5.Blocks)]] (L) (pm 0 rfl (pm 0 rfl (pm 0 rfl (pr _)))) ?_
        exact okX_ret1 () Tryd.results9 rfl rfl
      · replace h := cf hb38 h
        refine okC_skip ?_
        refine okX_next ?_
        refine okC_seq ?_
        refine okC_seq ?_
        refine okC_region ?_
        refine okL_step 17 (tI 0) rfl rfl (does_assign rfl) ?_
        refine okL_nil ?_
        refine okX_next ?_
        obtain ⟨z41, h43, hz42⟩ := sqs h
        refine okC_meetE (X := Unit) (fun x => z41 = .inl x) (fun x : Unit => []) (fun x : Unit => Item.blk g8 27 [(tI r5.Params), (tI r5.Regs), (tL 5 Block.ty ((((l20.set r12.toNat (⟨y25.Instrs, 2, y25.Reg, y25.Target, y25.Else⟩ : Block)).set r12.toNat (⟨y27.Instrs, y27.End, r23, y27.Target, y27.Else⟩ : Block)).set r12.toNat (⟨y29.Instrs, y29.End, y29.Reg, r12, y29.Else⟩ : Block)).set r12.toNat (⟨y31.Instrs, y31.End, y31.Reg, y31.Target, ((r5.Blocks).length : Int)⟩ : Block)))] :: Item.blk g16 43 [(tL 6 VInstr.ty y14.Instrs), (tI y14.End), (tI y14.Reg), (tI y14.Target), (tI y14.Else)] :: Item.blk g7 27 [(tI r5.Params), (tI r5.Regs), (tL 5 Block.ty r5.Blocks)] :: L) ?_ ?_
        · refine okC_block ?_
          refine okC_loop (X := Int) (fun k x => law33_LivenessSubset_l1 K r33 r35 k x = some z41) (fun x : Int => [(13, (tL 1 lIs r33.1)), (15, (tL 1 lIs r35.1)), (17, (tI x))]) (fun x : Int => Item.blk g8 27 [(tI r5.Params), (tI r5.Regs), (tL 5 Block.ty ((((l20.set r12.toNat (⟨y25.Instrs, 2, y25.Reg, y25.Target, y25.Else⟩ : Block)).set r12.toNat (⟨y27.Instrs, y27.End, r23, y27.Target, y27.Else⟩ : Block)).set r12.toNat (⟨y29.Instrs, y29.End, y29.Reg, r12, y29.Else⟩ : Block)).set r12.toNat (⟨y31.Instrs, y31.End, y31.Reg, y31.Target, ((r5.Blocks).length : Int)⟩ : Block)))] :: Item.blk g16 43 [(tL 6 VInstr.ty y14.Instrs), (tI y14.End), (tI y14.Reg), (tI y14.Target), (tI y14.Else)] :: Item.blk g7 27 [(tI r5.Params), (tI r5.Regs), (tL 5 Block.ty r5.Blocks)] :: L) K 0 h43 (cc rfl (cc rfl (cc rfl cn))) rfl (fun k s44 hI => ?_)
          change OkC _ _ _ [(13, (tL 1 lIs r33.1)), (15, (tL 1 lIs r35.1)), (17, (tI s44))] (Item.blk g8 27 [(tI r5.Params), (tI r5.Regs), (tL 5 Block.ty ((((l20.set r12.toNat (⟨y25.Instrs, 2, y25.Reg, y25.Target, y25.Else⟩ : Block)).set r12.toNat (⟨y27.Instrs, y27.End, r23, y27.Target, y27.Else⟩ : Block)).set r12.toNat (⟨y29.Instrs, y29.End, y29.Reg, r12, y29.Else⟩ : Block)).set r12.toNat (⟨y31.Instrs, y31.End, y31.Reg, y31.Target, ((r5.Blocks).length : Int)⟩ : Block)))] :: Item.blk g16 43 [(tL 6 VInstr.ty y14.Instrs), (tI y14.End), (tI y14.Reg), (tI y14.Target), (tI y14.Else)] :: Item.blk g7 27 [(tI r5.Params), (tI r5.Regs), (tL 5 Block.ty r5.Blocks)] :: L)
          cases k with
          | zero => exact (nz hI).elim
          | succ k =>
            have h : law33_LivenessSubset_l1 K r33 r35 (k + 1) s44 = some z41 := hI
            rw [law33_LivenessSubset_l1.eq_2] at h
            refine okC_seq ?_
            refine okC_seq ?_
            refine okC_region ?_
            refine okL_step 105 (tI s44) rfl rfl (does_move rfl) ?_
            refine okL_step 106 (tL 1 lIs r33.1) rfl rfl (does_move rfl) ?_
            refine okL_step 107 (tI ((r33.1).length : Int)) rfl rfl (does_len (sz := 1) (f := lIs) (l := r33.1) rfl Tryd.underlying22 rfl) ?_
            refine okL_step 108 (tB (decide (s44 < ((r33.1).length : Int)))) rfl rfl (does_lss rfl rfl) ?_
            refine okL_nil ?_
            refine okX_next ?_
            refine okC_cond (b := (decide (s44 < ((r33.1).length : Int)))) rfl (fun hb46 => ?_) (fun hb46 => ?_)
            · replace h := ct hb46 h
              refine okC_skip ?_
              refine okX_next ?_
              refine okC_seq ?_
              refine okC_block ?_
              refine okC_seq ?_
              refine okC_cov [(13, (tL 1 lIs r33.1)), (15, (tL 1 lIs r35.1)), (17, (tI s44))] (cc rfl (cc rfl (cc rfl cn))) ?_
              obtain ⟨y47, hi48, h⟩ := bs h
              obtain ⟨y49, hi50, h⟩ := bs h
              refine okC_draw 8 [some (111, (tL 1 lIs r33.1)), some (112, (tI s44)), some (113, (Ty.ptr [(tL 1 lI y47)])), some (114, (tL 1 lI y47)), some (115, (tL 1 lIs r35.1)), some (116, (tI s44)), some (117, (Ty.ptr [(tL 1 lI y49)])), some (118, (tL 1 lI y49))] ⟨Item.blk g8 27 [(tI r5.Params), (tI r5.Regs), (tL 5 Block.ty ((((l20.set r12.toNat (⟨y25.Instrs, 2, y25.Reg, y25.Target, y25.Else⟩ : Block)).set r12.toNat (⟨y27.Instrs, y27.End, r23, y27.Target, y27.Else⟩ : Block)).set r12.toNat (⟨y29.Instrs, y29.End, y29.Reg, r12, y29.Else⟩ : Block)).set r12.toNat (⟨y31.Instrs, y31.End, y31.Reg, y31.Target, ((r5.Blocks).length : Int)⟩ : Block)))] :: Item.blk g16 43 [(tL 6 VInstr.ty y14.Instrs), (tI y14.End), (tI y14.Reg), (tI y14.Target), (tI y14.Else)] :: Item.blk g7 27 [(tI r5.Params), (tI r5.Regs), (tL 5 Block.ty r5.Blocks)] :: ([] : List Item), Item.blk g8 27 [(tI r5.Params), (tI r5.Regs), (tL 5 Block.ty ((((l20.set r12.toNat (⟨y25.Instrs, 2, y25.Reg, y25.Target, y25.Else⟩ : Block)).set r12.toNat (⟨y27.Instrs, y27.End, r23, y27.Target, y27.Else⟩ : Block)).set r12.toNat (⟨y29.Instrs, y29.End, y29.Reg, r12, y29.Else⟩ : Block)).set r12.toNat (⟨y31.Instrs, y31.End, y31.Reg, y31.Target, ((r5.Blocks).length : Int)⟩ : Block)))] :: Item.blk g16 43 [(tL 6 VInstr.ty y14.Instrs), (tI y14.End), (tI y14.Reg), (tI y14.Target), (tI y14.Else)] :: Item.blk g7 27 [(tI r5.Params), (tI r5.Regs), (tL 5 Block.ty r5.Blocks)] :: ([] : List Item), []⟩ [] mixed rfl rfl (by kernel_rfl) rfl (by kernel_rfl) rfl rfl rfl (fun _ h => List.Sublist.subset (.cons_cons _ (.cons_cons _ (.cons_cons _ (List.nil_sublist _)))) h) (fun _ h => List.Sublist.subset (.cons_cons _ (.cons_cons _ (.cons_cons _ (List.nil_sublist _)))) h) rfl (by kernel_rfl) (.inr ⟨by kernel_rfl, by kernel_rfl⟩) (by kernel_rfl) (by kernel_rfl) (dc (draw_plain rfl (does_move rfl)) (dc (draw_plain rfl (does_move rfl)) (dc (draw_plain rfl (does_index (sz := 1) (f := lIs) (l := r33.1) (n := s44) y47 Tryd.underlying22 Tryd.sizeOf31 hi48 rfl rfl)) (dc (draw_plain rfl (does_load1 Tryd.isAgg31 rfl)) (dc (draw_plain rfl (does_move rfl)) (dc (draw_plain rfl (does_move rfl)) (dc (draw_plain rfl (does_index (sz := 1) (f := lIs) (l := r35.1) (n := s44) y49 Tryd.underlying22 Tryd.sizeOf31 hi50 rfl rfl)) (dc (draw_plain rfl (does_load1 Tryd.isAgg31 rfl)) (dn))))))))) ?_
              refine ch_end ?_
              change OkL _ _ _ _ [(111, (tL 1 lIs r33.1)), (112, (tI s44)), (113, (Ty.ptr [(tL 1 lI y47)])), (114, (tL 1 lI y47)), (115, (tL 1 lIs r35.1)), (116, (tI s44)), (117, (Ty.ptr [(tL 1 lI y49)])), (118, (tL 1 lI y49)), (13, (tL 1 lIs r33.1)), (15, (tL 1 lIs r35.1)), (17, (tI s44))] (Item.blk g8 27 [(tI r5.Params), (tI r5.Regs), (tL 5 Block.ty ((((l20.set r12.toNat (⟨y25.Instrs, 2, y25.Reg, y25.Target, y25.Else⟩ : Block)).set r12.toNat (⟨y27.Instrs, y27.End, r23, y27.Target, y27.Else⟩ : Block)).set r12.toNat (⟨y29.Instrs, y29.End, y29.Reg, r12, y29.Else⟩ : Block)).set r12.toNat (⟨y31.Instrs, y31.End, y31.Reg, y31.Target, ((r5.Blocks).length : Int)⟩ : Block)))] :: Item.blk g16 43 [(tL 6 VInstr.ty y14.Instrs), (tI y14.End), (tI y14.Reg), (tI y14.Target), (tI y14.Else)] :: Item.blk g7 27 [(tI r5.Params), (tI r5.Regs), (tL 5 Block.ty r5.Blocks)] :: L)
              obtain ⟨r51, hc52, h⟩ := bs h
              refine okL_step 119 (tL 1 lI r51) rfl rfl (does_call0 (c_ref32_Minus K y47 y49 r51 hc52) rfl Tryd.call36 rfl) ?_
              refine okL_step 120 (tI ((r51).length : Int)) rfl rfl (does_len (sz := 1) (f := lI) (l := r51) rfl Tryd.underlying31 rfl) ?_
              refine okL_step 121 (tB (decide (((r51).length : Int) > 0))) rfl rfl (does_gtr rfl rfl) ?_
              refine okL_nil ?_
              refine okX_next ?_
              refine okC_cond (b := (decide (((r51).length : Int) > 0))) rfl (fun hb53 => ?_) (fun hb53 => ?_)
              · replace h := ct hb53 h
                refine okC_seq ?_
                refine okC_region ?_
                refine okL_step 8 (tB false) rfl rfl (does_assign rfl) ?_
                refine okL_nil ?_
                refine okX_next ?_
                refine okC_ret ?_
                refine okX_block_ret ?_
                refine okX_then_ret ?_
                refine okX_again_ret ?_
                refine okX_block_ret ?_
                refine okX_meet_ret ?_
                replace h := outh h hz42
                refine okX_then_ret ?_
                obtain rfl := (smh h).symm
                refine okX_items [Item.blk g8 27 [(tI r5.Params), (tI r5.Regs), (tL 5 Block.ty ((((l20.set r12.toNat (⟨y25.Instrs, 2, y25.Reg, y25.Target, y25.Else⟩ : Block)).set r12.toNat (⟨y27.Instrs, y27.End, r23, y27.Target, y27.Else⟩ : Block)).set r12.toNat (⟨y29.Instrs, y29.End, y29.Reg, r12, y29.Else⟩ : Block)).set r12.toNat (⟨y31.Instrs, y31.End, y31.Reg, y31.Target, ((r5.Blocks).length : Int)⟩ : Block)))], Item.blk g16 43 [(tL 6 VInstr.ty y14.Instrs), (tI y14.End), (tI y14.Reg), (tI y14.Target), (tI y14.Else)], Item.blk g7 27 [(tI r5.Params), (tI r5.Regs), (tL 5 Block.ty r5.Blocks)]] (L) (pm 0 rfl (pm 0 rfl (pm 0 rfl (pr _)))) ?_
                exact okX_ret1 () Tryd.results9 rfl rfl
              · replace h := cf hb53 h
                refine okC_skip ?_
                refine okX_block_normal ?_
                refine okX_next ?_
                refine okC_region ?_
                refine okL_step 109 (tI s44) rfl rfl (does_move rfl) ?_
                refine okL_step 110 (tI (w64 (s44 + 1))) rfl rfl (does_add rfl rfl) ?_
                refine okL_step 17 (tI (w64 (s44 + 1))) rfl rfl (does_assign rfl) ?_
                refine okL_nil ?_
                exact okX_again k (Nat.lt_succ_self k) (w64 (s44 + 1)) h (cc rfl (cc rfl (cc rfl cn))) rfl
            · replace h := cf hb46 h
              refine okC_exit ?_
              refine okX_then_exit ?_
              refine okX_again_exit ?_
              refine okX_block_hit ?_
              exact okX_meet (I := _) () (innh h) cn rfl
        · intro s39 hx
          change OkX _ _ _ [] (Item.blk g8 27 [(tI r5.Params), (tI r5.Regs), (tL 5 Block.ty ((((l20.set r12.toNat (⟨y25.Instrs, 2, y25.Reg, y25.Target, y25.Else⟩ : Block)).set r12.toNat (⟨y27.Instrs, y27.End, r23, y27.Target, y27.Else⟩ : Block)).set r12.toNat (⟨y29.Instrs, y29.End, y29.Reg, r12, y29.Else⟩ : Block)).set r12.toNat (⟨y31.Instrs, y31.End, y31.Reg, y31.Target, ((r5.Blocks).length : Int)⟩ : Block)))] :: Item.blk g16 43 [(tL 6 VInstr.ty y14.Instrs), (tI y14.End), (tI y14.Reg), (tI y14.Target), (tI y14.Else)] :: Item.blk g7 27 [(tI r5.Params), (tI r5.Regs), (tL 5 Block.ty r5.Blocks)] :: L)
          have hx : z41 = .inl s39 := hx
          subst hx
          replace h := hz42
          refine okX_next ?_
          refine okC_seq ?_
          refine okC_region ?_
          obtain ⟨r54, hc55, h⟩ := bs h
          refine okL_step 122 (tB r54) rfl rfl (does_call0 (c_law33_LivenessExamples K r54 hc55) rfl Tryd.call3 rfl) ?_
          refine okL_step 8 (tB r54) rfl rfl (does_assign rfl) ?_
          refine okL_nil ?_
          refine okX_next ?_
          refine okC_ret ?_
          obtain rfl := (smh h).symm
          refine okX_items [Item.blk g8 27 [(tI r5.Params), (tI r5.Regs), (tL 5 Block.ty ((((l20.set r12.toNat (⟨y25.Instrs, 2, y25.Reg, y25.Target, y25.Else⟩ : Block)).set r12.toNat (⟨y27.Instrs, y27.End, r23, y27.Target, y27.Else⟩ : Block)).set r12.toNat (⟨y29.Instrs, y29.End, y29.Reg, r12, y29.Else⟩ : Block)).set r12.toNat (⟨y31.Instrs, y31.End, y31.Reg, y31.Target, ((r5.Blocks).length : Int)⟩ : Block)))], Item.blk g16 43 [(tL 6 VInstr.ty y14.Instrs), (tI y14.End), (tI y14.Reg), (tI y14.Target), (tI y14.Else)], Item.blk g7 27 [(tI r5.Params), (tI r5.Regs), (tL 5 Block.ty r5.Blocks)]] (L) (pm 0 rfl (pm 0 rfl (pm 0 rfl (pr _)))) ?_
          exact okX_ret1 () Tryd.results9 rfl rfl

end Go.Proofs.YtocfnpnnbmicmaaDoor.Tc
