/- Written by gen.py: for each Go function a pure Lean function, and that the Go code comes to what it says. -/
import Derived.Test.YtocfnpnnbmicmaaDoorXRb2
set_option linter.unusedVariables false
set_option maxRecDepth 8000
set_option maxHeartbeats 4000000
namespace Go.Proofs.YtocfnpnnbmicmaaDoor.Tc
open Go Go.RowKit

def ref32_Reads_l1 (K : Nat) (a0 : VInstr) : Nat → ((List Int) × Int) → Option (List Int)
  | 0, _ => none
  | k + 1, s37 => (cnd ((decide (s37.2 < ((a0.Args).length : Int))) && (a0.Instr.Op == 6)) (Option.bind (idx a0.Args s37.2) (fun y41 => (Option.bind (ref29_Insert K s37.1 y41) (fun r43 => (ref32_Reads_l1 K a0 k (r43, (w64 (s37.2 + 1)))))))) (some s37.1))

def ref32_Reads (K : Nat) (a0 : VInstr) : Option (List Int) :=
  (Option.bind (ref32_allowed a0.Instr.Op) (fun r2 => (cnd (!r2) (some ([] : List Int)) (Option.bind (ref32_info a0.Instr.Op) (fun r5 => (Option.bind (cnd r5.ReadsA (Option.bind (ref29_Insert K ([] : List Int) a0.Instr.A) (fun r14 => (some r14))) (some ([] : List Int))) (fun s8 => (Option.bind (cnd r5.ReadsB (Option.bind (ref29_Insert K s8 a0.Instr.B) (fun r22 => (some r22))) (some s8)) (fun s16 => (Option.bind (cnd (r5.Form == 4) (Option.bind (ref29_Insert K s16 a0.Instr.C) (fun r30 => (some r30))) (some s16)) (fun s24 => (Option.bind (ref32_Reads_l1 K a0 K (s24, 0)) (fun s32 => (some s32))))))))))))))

theorem c_ref32_Reads (K : Nat) (a0 : VInstr) (r : (List Int)) (h : ref32_Reads K a0 = some r) : CallP Tryd.prog glob 38 [(Ty.agg [(tI a0.Instr.Op), (tI a0.Instr.A), (tI a0.Instr.B), (tI a0.Instr.C), (tI a0.Instr.N), (tL 1 lI a0.Args)])] (tL 1 lI r) := by
  refine call_of_code Tryd.func38 rfl Tryd.ntmps38 rfl (fun L w => ?_)
  change OkC _ _ _ [(0, (Ty.agg [(tI a0.Instr.Op), (tI a0.Instr.A), (tI a0.Instr.B), (tI a0.Instr.C), (tI a0.Instr.N), (tL 1 lI a0.Args)]))] (L)
  unfold ref32_Reads at h
  refine okC_seq ?_
  refine okC_region ?_
  refine okL_stepO 1 rfl rfl (doesO_box [(tI a0.Instr.Op), (tI a0.Instr.A), (tI a0.Instr.B), (tI a0.Instr.C), (tI a0.Instr.N), (tL 1 lI a0.Args)] rfl (part_agg _) (fun g1 => ?_))
  refine okL_step 2 (Ty.val (.slice none 0 0)) rfl rfl (does_assign rfl) ?_
  refine okL_nil ?_
  refine okX_next ?_
  refine okC_seq ?_
  refine okC_region ?_
  refine okL_step 3 (Ty.val (.slice none 0 0)) rfl rfl (does_assign rfl) ?_
  refine okL_nil ?_
  refine okX_next ?_
  refine okC_seq ?_
  refine okC_seq ?_
  refine okC_region ?_
  refine okL_step 6 (pAt g1 0) rfl rfl (does_fieldAddrP 0 Tryd.underlying48 rfl Tryd.sizeOf46 rfl rfl) ?_
  refine okL_step 7 (pAt g1 0) rfl rfl (does_fieldAddrP 0 Tryd.underlying46 rfl Tryd.sizeOf3 rfl rfl) ?_
  refine okL_step 8 (tI a0.Instr.Op) rfl rfl (does_loadB1 Tryd.isAgg3 rfl 0 rfl rfl) ?_
  obtain ⟨r2, hc3, h⟩ := bs h
  refine okL_step 9 (tB r2) rfl rfl (does_call0 (c_ref32_allowed a0.Instr.Op r2 hc3) rfl Tryd.call81 rfl) ?_
  refine okL_step 10 (tB (!r2)) rfl rfl (does_not rfl) ?_
  refine okL_nil ?_
  refine okX_next ?_
  refine okC_cond (b := (!r2)) rfl (fun hb4 => ?_) (fun hb4 => ?_)
  · replace h := ct hb4 h
    refine okC_seq ?_
    refine okC_region ?_
    refine okL_step 11 (Ty.val (.slice none 0 0)) rfl rfl (does_move rfl) ?_
    refine okL_step 2 (Ty.val (.slice none 0 0)) rfl rfl (does_assign rfl) ?_
    refine okL_nil ?_
    refine okX_next ?_
    refine okC_ret ?_
    refine okX_then_ret ?_
    obtain rfl := (smh h).symm
    refine okX_sub 2 (tL 1 lI ([] : List Int)) rfl (sub_nil _) ?_
    refine okX_items [Item.blk g1 48 [(tI a0.Instr.Op), (tI a0.Instr.A), (tI a0.Instr.B), (tI a0.Instr.C), (tI a0.Instr.N), (tL 1 lI a0.Args)]] (L) (pm 0 rfl (pr _)) ?_
    exact okX_ret1 () Tryd.results38 rfl rfl
  · replace h := cf hb4 h
    refine okC_skip ?_
    refine okX_next ?_
    refine okC_seq ?_
    refine okC_region ?_
    refine okL_step 12 (pAt g1 0) rfl rfl (does_fieldAddrP 0 Tryd.underlying48 rfl Tryd.sizeOf46 rfl rfl) ?_
    refine okL_step 13 (pAt g1 0) rfl rfl (does_fieldAddrP 0 Tryd.underlying46 rfl Tryd.sizeOf3 rfl rfl) ?_
    refine okL_step 14 (tI a0.Instr.Op) rfl rfl (does_loadB1 Tryd.isAgg3 rfl 0 rfl rfl) ?_
    obtain ⟨r5, hc6, h⟩ := bs h
    refine okL_step 15 (Ty.agg [(tS r5.Name), (tI r5.Form), (tB r5.ReadsA), (tB r5.WritesA), (tB r5.ReadsB), (tB r5.MayTrap), (tI r5.Words)]) rfl rfl (does_call0 (c_ref32_info a0.Instr.Op r5 hc6) rfl Tryd.call82 rfl) ?_
    refine okL_stepO 4 rfl rfl (doesO_alloc [(tS ⟨#[]⟩), (tI 0), (tB false), (tB false), (tB false), (tB false), (tI 0)] Tryd.zeroValue113 (part_of (sub_agg [(.string ⟨#[]⟩), (.int .i64 0), (.bool false), (.bool false), (.bool false), (.bool false), (.int .i64 0)] rfl) (part_agg _)) (fun g7 => ?_))
    refine okL_stepU rfl (doesO_storeB (ps := [(tS r5.Name), (tI r5.Form), (tB r5.ReadsA), (tB r5.WritesA), (tB r5.ReadsB), (tB r5.MayTrap), (tI r5.Words)]) 0 [(tS r5.Name), (tI r5.Form), (tB r5.ReadsA), (tB r5.WritesA), (tB r5.ReadsB), (tB r5.MayTrap), (tI r5.Words)] (Item.blk g7 113 [(tS r5.Name), (tI r5.Form), (tB r5.ReadsA), (tB r5.WritesA), (tB r5.ReadsB), (tB r5.MayTrap), (tI r5.Words)] :: Item.blk g1 48 [(tI a0.Instr.Op), (tI a0.Instr.A), (tI a0.Instr.B), (tI a0.Instr.C), (tI a0.Instr.N), (tL 1 lI a0.Args)] :: L) rfl rfl (part_agg _) Tryd.sizeOf113 rfl rfl rfl rfl ?_)
    refine okL_nil ?_
    refine okX_next ?_
    obtain ⟨z10, h12, hz11⟩ := bs h
    refine okC_meet (X := (List Int)) (fun x => z10 = x) (fun x : (List Int) => [(1, (pAt g1 0)), (3, (tL 1 lI x)), (4, (pAt g7 0))]) (fun x : (List Int) => Item.blk g7 113 [(tS r5.Name), (tI r5.Form), (tB r5.ReadsA), (tB r5.WritesA), (tB r5.ReadsB), (tB r5.MayTrap), (tI r5.Words)] :: Item.blk g1 48 [(tI a0.Instr.Op), (tI a0.Instr.A), (tI a0.Instr.B), (tI a0.Instr.C), (tI a0.Instr.N), (tL 1 lI a0.Args)] :: L) ?_ ?_
    · refine okC_seq ?_
      refine okC_region ?_
      refine okL_step 16 (pAt g7 2) rfl rfl (does_fieldAddrP 2 Tryd.underlying113 rfl Tryd.sizeOf4 rfl rfl) ?_
      refine okL_step 17 (tB r5.ReadsA) rfl rfl (does_loadB1 Tryd.isAgg4 rfl 0 rfl rfl) ?_
      refine okL_nil ?_
      refine okX_next ?_
      refine okC_cond (b := r5.ReadsA) rfl (fun hb13 => ?_) (fun hb13 => ?_)
      · replace h12 := ct hb13 h12
        refine okC_region ?_
        refine okL_step 18 (Ty.val (.slice none 0 0)) rfl rfl (does_move rfl) ?_
        refine okL_step 19 (pAt g1 0) rfl rfl (does_fieldAddrP 0 Tryd.underlying48 rfl Tryd.sizeOf46 rfl rfl) ?_
        refine okL_step 20 (pAt g1 1) rfl rfl (does_fieldAddrP 1 Tryd.underlying46 rfl Tryd.sizeOf3 rfl rfl) ?_
        refine okL_step 21 (tI a0.Instr.A) rfl rfl (does_loadB1 Tryd.isAgg3 rfl 1 rfl rfl) ?_
        obtain ⟨r14, hc15, h12⟩ := bs h12
        refine okL_step 22 (tL 1 lI r14) rfl rfl (does_callS (c_ref29_Insert K ([] : List Int) a0.Instr.A r14 hc15) rfl Tryd.call80 (.cons rfl (sub_nil _) (.cons rfl (sub_refl _) ArgSub.nil))) ?_
        refine okL_step 3 (tL 1 lI r14) rfl rfl (does_assign rfl) ?_
        refine okL_nil ?_
        exact okX_meet (I := _) r14 (smh h12) (cc rfl (cc rfl (cc rfl cn))) rfl
      · replace h12 := cf hb13 h12
        refine okC_skip ?_
        refine okX_sub 3 (tL 1 lI ([] : List Int)) rfl (sub_nil _) ?_
        exact okX_meet (I := _) ([] : List Int) (smh h12) (cc rfl (cc rfl (cc rfl cn))) rfl
    · intro s8 hx
      change OkC _ _ _ [(1, (pAt g1 0)), (3, (tL 1 lI s8)), (4, (pAt g7 0))] (Item.blk g7 113 [(tS r5.Name), (tI r5.Form), (tB r5.ReadsA), (tB r5.WritesA), (tB r5.ReadsB), (tB r5.MayTrap), (tI r5.Words)] :: Item.blk g1 48 [(tI a0.Instr.Op), (tI a0.Instr.A), (tI a0.Instr.B), (tI a0.Instr.C), (tI a0.Instr.N), (tL 1 lI a0.Args)] :: L)
      obtain rfl : s8 = z10 := hx.symm
      replace h := hz11
      obtain ⟨z18, h20, hz19⟩ := bs h
      refine okC_meet (X := (List Int)) (fun x => z18 = x) (fun x : (List Int) => [(1, (pAt g1 0)), (3, (tL 1 lI x)), (4, (pAt g7 0))]) (fun x : (List Int) => Item.blk g7 113 [(tS r5.Name), (tI r5.Form), (tB r5.ReadsA), (tB r5.WritesA), (tB r5.ReadsB), (tB r5.MayTrap), (tI r5.Words)] :: Item.blk g1 48 [(tI a0.Instr.Op), (tI a0.Instr.A), (tI a0.Instr.B), (tI a0.Instr.C), (tI a0.Instr.N), (tL 1 lI a0.Args)] :: L) ?_ ?_
      · refine okC_seq ?_
        refine okC_region ?_
        refine okL_step 23 (pAt g7 4) rfl rfl (does_fieldAddrP 4 Tryd.underlying113 rfl Tryd.sizeOf4 rfl rfl) ?_
        refine okL_step 24 (tB r5.ReadsB) rfl rfl (does_loadB1 Tryd.isAgg4 rfl 0 rfl rfl) ?_
        refine okL_nil ?_
        refine okX_next ?_
        refine okC_cond (b := r5.ReadsB) rfl (fun hb21 => ?_) (fun hb21 => ?_)
        · replace h20 := ct hb21 h20
          refine okC_region ?_
          refine okL_step 25 (tL 1 lI s8) rfl rfl (does_move rfl) ?_
          refine okL_step 26 (pAt g1 0) rfl rfl (does_fieldAddrP 0 Tryd.underlying48 rfl Tryd.sizeOf46 rfl rfl) ?_
          refine okL_step 27 (pAt g1 2) rfl rfl (does_fieldAddrP 2 Tryd.underlying46 rfl Tryd.sizeOf3 rfl rfl) ?_
          refine okL_step 28 (tI a0.Instr.B) rfl rfl (does_loadB1 Tryd.isAgg3 rfl 1 rfl rfl) ?_
          obtain ⟨r22, hc23, h20⟩ := bs h20
          refine okL_step 29 (tL 1 lI r22) rfl rfl (does_call0 (c_ref29_Insert K s8 a0.Instr.B r22 hc23) rfl Tryd.call80 rfl) ?_
          refine okL_step 3 (tL 1 lI r22) rfl rfl (does_assign rfl) ?_
          refine okL_nil ?_
          exact okX_meet (I := _) r22 (smh h20) (cc rfl (cc rfl (cc rfl cn))) rfl
        · replace h20 := cf hb21 h20
          refine okC_skip ?_
          exact okX_meet (I := _) s8 (smh h20) (cc rfl (cc rfl (cc rfl cn))) rfl
      · intro s16 hx
        change OkC _ _ _ [(1, (pAt g1 0)), (3, (tL 1 lI s16)), (4, (pAt g7 0))] (Item.blk g7 113 [(tS r5.Name), (tI r5.Form), (tB r5.ReadsA), (tB r5.WritesA), (tB r5.ReadsB), (tB r5.MayTrap), (tI r5.Words)] :: Item.blk g1 48 [(tI a0.Instr.Op), (tI a0.Instr.A), (tI a0.Instr.B), (tI a0.Instr.C), (tI a0.Instr.N), (tL 1 lI a0.Args)] :: L)
        obtain rfl : s16 = z18 := hx.symm
        replace h := hz19
        obtain ⟨z26, h28, hz27⟩ := bs h
        refine okC_meet (X := (List Int)) (fun x => z26 = x) (fun x : (List Int) => [(1, (pAt g1 0)), (3, (tL 1 lI x))]) (fun x : (List Int) => Item.blk g7 113 [(tS r5.Name), (tI r5.Form), (tB r5.ReadsA), (tB r5.WritesA), (tB r5.ReadsB), (tB r5.MayTrap), (tI r5.Words)] :: Item.blk g1 48 [(tI a0.Instr.Op), (tI a0.Instr.A), (tI a0.Instr.B), (tI a0.Instr.C), (tI a0.Instr.N), (tL 1 lI a0.Args)] :: L) ?_ ?_
        · refine okC_seq ?_
          refine okC_region ?_
          refine okL_step 30 (pAt g7 1) rfl rfl (does_fieldAddrP 1 Tryd.underlying113 rfl Tryd.sizeOf3 rfl rfl) ?_
          refine okL_step 31 (tI r5.Form) rfl rfl (does_loadB1 Tryd.isAgg3 rfl 0 rfl rfl) ?_
          refine okL_step 32 (tB (r5.Form == 4)) rfl rfl (does_eql rfl rfl) ?_
          refine okL_nil ?_
          refine okX_next ?_
          refine okC_cond (b := (r5.Form == 4)) rfl (fun hb29 => ?_) (fun hb29 => ?_)
          · replace h28 := ct hb29 h28
            refine okC_region ?_
            refine okL_step 33 (tL 1 lI s16) rfl rfl (does_move rfl) ?_
            refine okL_step 34 (pAt g1 0) rfl rfl (does_fieldAddrP 0 Tryd.underlying48 rfl Tryd.sizeOf46 rfl rfl) ?_
            refine okL_step 35 (pAt g1 3) rfl rfl (does_fieldAddrP 3 Tryd.underlying46 rfl Tryd.sizeOf3 rfl rfl) ?_
            refine okL_step 36 (tI a0.Instr.C) rfl rfl (does_loadB1 Tryd.isAgg3 rfl 1 rfl rfl) ?_
            obtain ⟨r30, hc31, h28⟩ := bs h28
            refine okL_step 37 (tL 1 lI r30) rfl rfl (does_call0 (c_ref29_Insert K s16 a0.Instr.C r30 hc31) rfl Tryd.call80 rfl) ?_
            refine okL_step 3 (tL 1 lI r30) rfl rfl (does_assign rfl) ?_
            refine okL_nil ?_
            exact okX_meet (I := _) r30 (smh h28) (cc rfl (cc rfl cn)) rfl
          · replace h28 := cf hb29 h28
            refine okC_skip ?_
            exact okX_meet (I := _) s16 (smh h28) (cc rfl (cc rfl cn)) rfl
        · intro s24 hx
          change OkC _ _ _ [(1, (pAt g1 0)), (3, (tL 1 lI s24))] (Item.blk g7 113 [(tS r5.Name), (tI r5.Form), (tB r5.ReadsA), (tB r5.WritesA), (tB r5.ReadsB), (tB r5.MayTrap), (tI r5.Words)] :: Item.blk g1 48 [(tI a0.Instr.Op), (tI a0.Instr.A), (tI a0.Instr.B), (tI a0.Instr.C), (tI a0.Instr.N), (tL 1 lI a0.Args)] :: L)
          obtain rfl : s24 = z26 := hx.symm
          replace h := hz27
          refine okC_seq ?_
          refine okC_seq ?_
          refine okC_region ?_
          refine okL_step 5 (tI 0) rfl rfl (does_assign rfl) ?_
          refine okL_nil ?_
          refine okX_next ?_
          obtain ⟨z34, h36, hz35⟩ := bs h
          refine okC_meetE (X := (List Int)) (fun x => z34 = x) (fun x : (List Int) => [(3, (tL 1 lI x))]) (fun x : (List Int) => Item.blk g7 113 [(tS r5.Name), (tI r5.Form), (tB r5.ReadsA), (tB r5.WritesA), (tB r5.ReadsB), (tB r5.MayTrap), (tI r5.Words)] :: Item.blk g1 48 [(tI a0.Instr.Op), (tI a0.Instr.A), (tI a0.Instr.B), (tI a0.Instr.C), (tI a0.Instr.N), (tL 1 lI a0.Args)] :: L) ?_ ?_
          · refine okC_block ?_
            refine okC_loop (X := ((List Int) × Int)) (fun k x => ref32_Reads_l1 K a0 k x = some z34) (fun x : ((List Int) × Int) => [(1, (pAt g1 0)), (3, (tL 1 lI x.1)), (5, (tI x.2))]) (fun x : ((List Int) × Int) => Item.blk g7 113 [(tS r5.Name), (tI r5.Form), (tB r5.ReadsA), (tB r5.WritesA), (tB r5.ReadsB), (tB r5.MayTrap), (tI r5.Words)] :: Item.blk g1 48 [(tI a0.Instr.Op), (tI a0.Instr.A), (tI a0.Instr.B), (tI a0.Instr.C), (tI a0.Instr.N), (tL 1 lI a0.Args)] :: L) K (s24, 0) h36 (cc rfl (cc rfl (cc rfl cn))) rfl (fun k s37 hI => ?_)
            change OkC _ _ _ [(1, (pAt g1 0)), (3, (tL 1 lI s37.1)), (5, (tI s37.2))] (Item.blk g7 113 [(tS r5.Name), (tI r5.Form), (tB r5.ReadsA), (tB r5.WritesA), (tB r5.ReadsB), (tB r5.MayTrap), (tI r5.Words)] :: Item.blk g1 48 [(tI a0.Instr.Op), (tI a0.Instr.A), (tI a0.Instr.B), (tI a0.Instr.C), (tI a0.Instr.N), (tL 1 lI a0.Args)] :: L)
            cases k with
            | zero => exact (nz hI).elim
            | succ k =>
              have h : ref32_Reads_l1 K a0 (k + 1) s37 = some z34 := hI
              rw [ref32_Reads_l1.eq_2] at h
              refine okC_seq ?_
              refine okC_seq ?_
              refine okC_region ?_
              refine okL_step 38 (tI s37.2) rfl rfl (does_move rfl) ?_
              refine okL_step 39 (pAt g1 5) rfl rfl (does_fieldAddrP 5 Tryd.underlying48 rfl Tryd.sizeOf31 rfl rfl) ?_
              refine okL_step 40 (tL 1 lI a0.Args) rfl rfl (does_loadB1 Tryd.isAgg31 rfl 1 rfl rfl) ?_
              refine okL_step 41 (tI ((a0.Args).length : Int)) rfl rfl (does_len (sz := 1) (f := lI) (l := a0.Args) rfl Tryd.underlying31 rfl) ?_
              refine okL_step 42 (tB (decide (s37.2 < ((a0.Args).length : Int)))) rfl rfl (does_lss rfl rfl) ?_
              refine okL_step 43 (tB (decide (s37.2 < ((a0.Args).length : Int)))) rfl rfl (does_move rfl) ?_
              refine okL_meet (X := Bool) 5 (fun x => x = ((decide (s37.2 < ((a0.Args).length : Int))) && (a0.Instr.Op == 6))) (fun x : Bool => [(1, (pAt g1 0)), (3, (tL 1 lI s37.1)), (5, (tI s37.2)), (48, (tB x))]) (fun x : Bool => Item.blk g7 113 [(tS r5.Name), (tI r5.Form), (tB r5.ReadsA), (tB r5.WritesA), (tB r5.ReadsB), (tB r5.MayTrap), (tI r5.Words)] :: Item.blk g1 48 [(tI a0.Instr.Op), (tI a0.Instr.A), (tI a0.Instr.B), (tI a0.Instr.C), (tI a0.Instr.N), (tL 1 lI a0.Args)] :: L) _ rfl ?_ ?_
              · refine okL_split (decide (s37.2 < ((a0.Args).length : Int))) (fun hb39 => ?_) (fun hb39 => ?_)
                · refine okL_guard 44 (pAt g1 0) 43 (decide (s37.2 < ((a0.Args).length : Int))) rfl rfl hb39 rfl rfl (does_fieldAddrP 0 Tryd.underlying48 rfl Tryd.sizeOf46 rfl rfl) ?_
                  refine okL_guard 45 (pAt g1 0) 43 (decide (s37.2 < ((a0.Args).length : Int))) rfl rfl hb39 rfl rfl (does_fieldAddrP 0 Tryd.underlying46 rfl Tryd.sizeOf3 rfl rfl) ?_
                  refine okL_guard 46 (tI a0.Instr.Op) 43 (decide (s37.2 < ((a0.Args).length : Int))) rfl rfl hb39 rfl rfl (does_loadB1 Tryd.isAgg3 rfl 1 rfl rfl) ?_
                  refine okL_guard 47 (tB (a0.Instr.Op == 6)) 43 (decide (s37.2 < ((a0.Args).length : Int))) rfl rfl hb39 rfl rfl (does_eql rfl rfl) ?_
                  refine okL_step 48 (tB (a0.Instr.Op == 6)) rfl rfl (does_pick_t (decide (s37.2 < ((a0.Args).length : Int))) rfl hb39 rfl) ?_
                  refine okL_nil ?_
                  exact okX_meet (I := _) (a0.Instr.Op == 6) (and_t hb39) (cc rfl (cc rfl (cc rfl (cc rfl cn)))) rfl
                · refine okL_skip 44 43 (decide (s37.2 < ((a0.Args).length : Int))) rfl rfl hb39 rfl rfl ?_
                  refine okL_skip 45 43 (decide (s37.2 < ((a0.Args).length : Int))) rfl rfl hb39 rfl rfl ?_
                  refine okL_skip 46 43 (decide (s37.2 < ((a0.Args).length : Int))) rfl rfl hb39 rfl rfl ?_
                  refine okL_skip 47 43 (decide (s37.2 < ((a0.Args).length : Int))) rfl rfl hb39 rfl rfl ?_
                  refine okL_step 48 (tB false) rfl rfl (does_pick_f (decide (s37.2 < ((a0.Args).length : Int))) rfl hb39 rfl) ?_
                  refine okL_nil ?_
                  exact okX_meet (I := _) false (and_f hb39) (cc rfl (cc rfl (cc rfl (cc rfl cn)))) rfl
              · intro x45 hx
                subst hx
                change OkL _ _ _ _ [(1, (pAt g1 0)), (3, (tL 1 lI s37.1)), (5, (tI s37.2)), (48, (tB ((decide (s37.2 < ((a0.Args).length : Int))) && (a0.Instr.Op == 6))))] (Item.blk g7 113 [(tS r5.Name), (tI r5.Form), (tB r5.ReadsA), (tB r5.WritesA), (tB r5.ReadsB), (tB r5.MayTrap), (tI r5.Words)] :: Item.blk g1 48 [(tI a0.Instr.Op), (tI a0.Instr.A), (tI a0.Instr.B), (tI a0.Instr.C), (tI a0.Instr.N), (tL 1 lI a0.Args)] :: L)
                refine okL_nil ?_
                refine okX_next ?_
                refine okC_cond (b := ((decide (s37.2 < ((a0.Args).length : Int))) && (a0.Instr.Op == 6))) rfl (fun hb40 => ?_) (fun hb40 => ?_)
                · replace h := ct hb40 h
                  refine okC_skip ?_
                  refine okX_next ?_
                  refine okC_seq ?_
                  refine okC_block ?_
                  refine okC_region ?_
                  refine okL_step 51 (tL 1 lI s37.1) rfl rfl (does_move rfl) ?_
                  refine okL_step 52 (pAt g1 5) rfl rfl (does_fieldAddrP 5 Tryd.underlying48 rfl Tryd.sizeOf31 rfl rfl) ?_
                  refine okL_step 53 (tL 1 lI a0.Args) rfl rfl (does_loadB1 Tryd.isAgg31 rfl 1 rfl rfl) ?_
                  refine okL_step 54 (tI s37.2) rfl rfl (does_move rfl) ?_
                  obtain ⟨y41, hi42, h⟩ := bs h
                  refine okL_step 55 (Ty.ptr [(tI y41)]) rfl rfl (does_index (sz := 1) (f := lI) (l := a0.Args) (n := s37.2) y41 Tryd.underlying31 Tryd.sizeOf3 hi42 rfl rfl) ?_
                  refine okL_step 56 (tI y41) rfl rfl (does_load1 Tryd.isAgg3 rfl) ?_
                  obtain ⟨r43, hc44, h⟩ := bs h
                  refine okL_step 57 (tL 1 lI r43) rfl rfl (does_call0 (c_ref29_Insert K s37.1 y41 r43 hc44) rfl Tryd.call80 rfl) ?_
                  refine okL_step 3 (tL 1 lI r43) rfl rfl (does_assign rfl) ?_
                  refine okL_nil ?_
                  refine okX_block_normal ?_
                  refine okX_next ?_
                  refine okC_region ?_
                  refine okL_step 49 (tI s37.2) rfl rfl (does_move rfl) ?_
                  refine okL_step 50 (tI (w64 (s37.2 + 1))) rfl rfl (does_add rfl rfl) ?_
                  refine okL_step 5 (tI (w64 (s37.2 + 1))) rfl rfl (does_assign rfl) ?_
                  refine okL_nil ?_
                  exact okX_again k (Nat.lt_succ_self k) (r43, (w64 (s37.2 + 1))) h (cc rfl (cc rfl (cc rfl cn))) rfl
                · replace h := cf hb40 h
                  refine okC_exit ?_
                  refine okX_then_exit ?_
                  refine okX_again_exit ?_
                  refine okX_block_hit ?_
                  exact okX_meet (I := _) s37.1 (smh h) (cc rfl cn) rfl
          · intro s32 hx
            change OkX _ _ _ [(3, (tL 1 lI s32))] (Item.blk g7 113 [(tS r5.Name), (tI r5.Form), (tB r5.ReadsA), (tB r5.WritesA), (tB r5.ReadsB), (tB r5.MayTrap), (tI r5.Words)] :: Item.blk g1 48 [(tI a0.Instr.Op), (tI a0.Instr.A), (tI a0.Instr.B), (tI a0.Instr.C), (tI a0.Instr.N), (tL 1 lI a0.Args)] :: L)
            obtain rfl : s32 = z34 := hx.symm
            replace h := hz35
            refine okX_next ?_
            refine okC_seq ?_
            refine okC_region ?_
            refine okL_step 58 (tL 1 lI s32) rfl rfl (does_move rfl) ?_
            refine okL_step 2 (tL 1 lI s32) rfl rfl (does_assign rfl) ?_
            refine okL_nil ?_
            refine okX_next ?_
            refine okC_ret ?_
            obtain rfl := (smh h).symm
            refine okX_items [Item.blk g7 113 [(tS r5.Name), (tI r5.Form), (tB r5.ReadsA), (tB r5.WritesA), (tB r5.ReadsB), (tB r5.MayTrap), (tI r5.Words)], Item.blk g1 48 [(tI a0.Instr.Op), (tI a0.Instr.A), (tI a0.Instr.B), (tI a0.Instr.C), (tI a0.Instr.N), (tL 1 lI a0.Args)]] (L) (pm 0 rfl (pm 0 rfl (pr _))) ?_
            exact okX_ret1 () Tryd.results38 rfl rfl

def ref32_Valid_l2 (K : Nat) (a0 : VFunc) (y16 : Block) : Nat → Int → Option (Unit ⊕ (Unit ⊕ Bool))
  | 0, _ => none
  | k + 1, s27 => (cnd (decide (s27 < ((y16.Instrs).length : Int))) (Option.bind (idx y16.Instrs s27) (fun y30 => (Option.bind (ref32_validInstr K y30 a0) (fun r32 => (cnd (!r32) (out (out (some false))) (ref32_Valid_l2 K a0 y16 k (w64 (s27 + 1)))))))) (inn ()))

def ref32_Valid_l1 (K : Nat) (a0 : VFunc) : Nat → Int → Option (Unit ⊕ Bool)
  | 0, _ => none
  | k + 1, s13 => (cnd (decide (s13 < ((a0.Blocks).length : Int))) (Option.bind (idx a0.Blocks s13) (fun y16 => (Option.bind (ref32_validEnd y16 a0) (fun r19 => (cnd (!r19) (out (some false)) (sq (ref32_Valid_l2 K a0 y16 K 0) (fun s22 => (ref32_Valid_l1 K a0 k (w64 (s13 + 1)))))))))) (inn ()))

def ref32_Valid (K : Nat) (a0 : VFunc) : Option Bool :=
  (cnd ((((((decide (a0.Params < 0)) || (decide (a0.Params > 6))) || (decide (a0.Regs < 0))) || (decide (a0.Regs > 3000))) || (decide (((a0.Blocks).length : Int) < 1))) || (decide (((a0.Blocks).length : Int) > 1000))) (some false) (sq (ref32_Valid_l1 K a0 K 0) (fun s8 => (some true))))

def ref32_livePoints_l1 (K : Nat) (a0 : Block) : Nat → (Int × (List (List Int))) → Option (List (List Int))
  | 0, _ => none
  | k + 1, s16 => (cnd (decide (s16.1 ≥ 0)) (Option.bind (idx s16.2 (w64 (s16.1 + 1))) (fun y19 => (Option.bind (idx a0.Instrs s16.1) (fun y21 => (Option.bind (ref32_Writes y21) (fun r23 => (Option.bind (ref32_Minus K y19 r23) (fun r25 => (Option.bind (idx a0.Instrs s16.1) (fun y27 => (Option.bind (ref32_Reads K y27) (fun r29 => (Option.bind (ref32_Union K r25 r29) (fun r31 => (Option.bind (idx s16.2 s16.1) (fun y33 => (ref32_livePoints_l1 K a0 k ((w64 (s16.1 - 1)), (s16.2.set s16.1.toNat r31))))))))))))))))))) (some s16.2))

def ref32_livePoints (K : Nat) (a0 : Block) (a1 : (List Int)) : Option (List (List Int)) :=
  (Option.bind (mk 24 (w64 (((a0.Instrs).length : Int) + 1)) ([] : List Int)) (fun l2 => (Option.bind (ref32_endReads a0) (fun r5 => (Option.bind (ref32_Union K a1 r5) (fun r7 => (Option.bind (idx l2 ((a0.Instrs).length : Int)) (fun y9 => (Option.bind (ref32_livePoints_l1 K a0 K ((w64 (((a0.Instrs).length : Int) - 1)), (l2.set ((a0.Instrs).length : Int).toNat r7))) (fun s11 => (some s11)))))))))))

def keep2_VInstr_l1 (K : Nat) (a1 : VFunc) : Nat → (Int × Int × (List Int)) → Option (Int × (List Int))
  | 0, _ => none
  | k + 1, s78 => (cnd (decide (s78.1 > 0)) (Option.bind (keep2_Digits_Next (⟨s78.2.1⟩ : Fullingkeep2Digits) a1.Regs) (fun r81 => (Option.bind (app 8 s78.2.2 ([r81.1] : List Int)) (fun l83 => (keep2_VInstr_l1 K a1 k ((w64 (s78.1 - 1)), r81.2.N, l83)))))) (some (s78.2.1, s78.2.2)))

def keep2_VInstr (K : Nat) (a0 : Int) (a1 : VFunc) : Option VInstr :=
  (Option.bind (keep2_Digits_Next (⟨a0⟩ : Fullingkeep2Digits) 18) (fun r4 => (Option.bind (Option.bind (keep2_Digits_Next r4.2 24) (fun r11 => (cnd (decide (r11.1 < ((([3, 6, 9, 10, 11, 12, 13, 33, 34, 35, 10, 9] : List Int)).length : Int))) (Option.bind (idx ([3, 6, 9, 10, 11, 12, 13, 33, 34, 35, 10, 9] : List Int) r11.1) (fun y14 => (some (y14, r11.2.N)))) (some ((w64 (15 + r4.1)), r11.2.N))))) (fun s6 => (Option.bind (ref29_Info s6.1) (fun r17 => (Option.bind (cnd (r17.1.Form != 1) (Option.bind (keep2_Digits_Next (⟨s6.2⟩ : Fullingkeep2Digits) a1.Regs) (fun r26 => (some (r26.1, r26.2.N)))) (some (0, s6.2))) (fun s20 => (Option.bind (cnd (((r17.1.Form == 3) || (r17.1.Form == 4)) || (r17.1.Form == 7)) (Option.bind (keep2_Digits_Next (⟨s20.2⟩ : Fullingkeep2Digits) a1.Regs) (fun r36 => (some (r36.1, r36.2.N)))) (some (0, s20.2))) (fun s28 => (Option.bind (cnd (r17.1.Form == 4) (Option.bind (keep2_Digits_Next (⟨s28.2⟩ : Fullingkeep2Digits) a1.Regs) (fun r46 => (some (r46.1, r46.2.N)))) (some (0, s28.2))) (fun s40 => (Option.bind (cnd (s6.1 == 13) (Option.bind (keep2_Digits_Next (⟨s40.2⟩ : Fullingkeep2Digits) 400) (fun r54 => (Option.bind (keep_Word r54.1 a0) (fun r56 => (some (([] : List Int), r56, r54.2.N)))))) (cnd (s6.1 == 33) (Option.bind (keep2_Digits_Next (⟨s40.2⟩ : Fullingkeep2Digits) 9) (fun r59 => (some (([] : List Int), (w64 (r59.1 - 4)), r59.2.N)))) (Option.bind (cnd (s6.1 == 34) (some (s6.1 == 34)) (some (s6.1 == 35))) (fun s61 => (cnd s61 (Option.bind (keep2_Digits_Next (⟨s40.2⟩ : Fullingkeep2Digits) 2) (fun r68 => (some (([] : List Int), r68.1, r68.2.N)))) (cnd (s6.1 == 6) (Option.bind (keep2_Digits_Next (⟨s40.2⟩ : Fullingkeep2Digits) 2) (fun r71 => (Option.bind (keep2_VInstr_l1 K a1 K ((w64 (2 - r71.1)), r71.2.N, ([] : List Int))) (fun s73 => (some (s73.2, r71.1, s73.1)))))) (some (([] : List Int), 0, s40.2)))))))) (fun s48 => (some (⟨(⟨s6.1, s20.1, s28.1, s40.1, s48.2.1⟩ : Instr), s48.1⟩ : VInstr))))))))))))))))

theorem c_keep2_VInstr (K : Nat) (a0 : Int) (a1 : VFunc) (r : VInstr) (h : keep2_VInstr K a0 a1 = some r) : CallP Tryd.prog glob 57 [(tI a0), (Ty.agg [(tI a1.Params), (tI a1.Regs), Ty.any])] (Ty.agg [(tI r.Instr.Op), (tI r.Instr.A), (tI r.Instr.B), (tI r.Instr.C), (tI r.Instr.N), (tL 1 lI r.Args)]) := by
  refine call_of_code Tryd.func57 rfl Tryd.ntmps57 rfl (fun L w => ?_)
  change OkC _ _ _ [(0, (tI a0)), (1, (Ty.agg [(tI a1.Params), (tI a1.Regs), Ty.any]))] (L)
  unfold keep2_VInstr at h
  refine okC_seq ?_
  refine okC_region ?_
  refine okL_stepO 3 rfl rfl (doesO_box [(tI a1.Params), (tI a1.Regs), Ty.any] rfl (part_agg _) (fun g1 => ?_))
  refine okL_stepO 4 rfl rfl (doesO_alloc [(tI 0), (tI 0), (tI 0), (tI 0), (tI 0), (Ty.val (.slice none 0 0))] Tryd.zeroValue48 (part_of (sub_agg [(.int .i64 0), (.int .i64 0), (.int .i64 0), (.int .i64 0), (.int .i64 0), (.slice none 0 0)] rfl) (part_agg _)) (fun g2 => ?_))
  refine okL_nil ?_
  refine okX_next ?_
  refine okC_seq ?_
  refine okC_region ?_
  refine okL_step 14 (tI a0) rfl rfl (does_move rfl) ?_
  refine okL_step 15 (Ty.agg [(tI a0)]) rfl rfl (does_build [(tI a0)] Tryd.zeroValue103 Tryd.underlying103 (places103 _ Tryd.underlying103) rfl (fc [(tI a0)] 0 rfl (part_one (one_i _)) rfl rfl (fn_ rfl))) ?_
  refine okL_stepO 16 rfl rfl (doesO_box [(tI a0)] rfl (part_agg _) (fun g3 => ?_))
  refine okL_step 5 (pAt g3 0) rfl rfl (does_assign rfl) ?_
  refine okL_nil ?_
  refine okX_next ?_
  refine okC_seq ?_
  refine okC_region ?_
  refine okL_step 17 (tL 1 lI ([3, 6, 9, 10, 11, 12, 13, 33, 34, 35, 10, 9] : List Int)) rfl rfl (does_buildSlice (f := lI) ([3, 6, 9, 10, 11, 12, 13, 33, 34, 35, 10, 9] : List Int) [(tI 3), (tI 6), (tI 9), (tI 10), (tI 11), (tI 12), (tI 13), (tI 33), (tI 34), (tI 35), (tI 10), (tI 9)] el31 rfl rfl rfl (fc [(tI 3)] 0 rfl (part_one (one_i _)) rfl rfl (fc [(tI 6)] 1 rfl (part_one (one_i _)) rfl rfl (fc [(tI 9)] 2 rfl (part_one (one_i _)) rfl rfl (fc [(tI 10)] 3 rfl (part_one (one_i _)) rfl rfl (fc [(tI 11)] 4 rfl (part_one (one_i _)) rfl rfl (fc [(tI 12)] 5 rfl (part_one (one_i _)) rfl rfl (fc [(tI 13)] 6 rfl (part_one (one_i _)) rfl rfl (fc [(tI 33)] 7 rfl (part_one (one_i _)) rfl rfl (fc [(tI 34)] 8 rfl (part_one (one_i _)) rfl rfl (fc [(tI 35)] 9 rfl (part_one (one_i _)) rfl rfl (fc [(tI 10)] 10 rfl (part_one (one_i _)) rfl rfl (fc [(tI 9)] 11 rfl (part_one (one_i _)) rfl rfl (fn_ rfl))))))))))))) rfl (fun _ => rfl)) ?_
  refine okL_step 6 (tL 1 lI ([3, 6, 9, 10, 11, 12, 13, 33, 34, 35, 10, 9] : List Int)) rfl rfl (does_assign rfl) ?_
  refine okL_nil ?_
  refine okX_next ?_
  refine okC_seq ?_
  refine okC_region ?_
  refine okL_step 18 (pAt g3 0) rfl rfl (does_move rfl) ?_
  obtain ⟨r4, hc5, h⟩ := bs h
  refine okL_stepO 19 rfl rfl (doesO_call0 (Item.blk g2 48 [(tI 0), (tI 0), (tI 0), (tI 0), (tI 0), (Ty.val (.slice none 0 0))] :: Item.blk g1 27 [(tI a1.Params), (tI a1.Regs), Ty.any] :: L) (c_keep2_Digits_Next (⟨a0⟩ : Fullingkeep2Digits) 18 g3 r4 hc5) rfl Tryd.call74 rfl (pm 0 rfl (pr _)) (fun _ => ?_))
  refine okL_step 20 (tI (w64 (15 + r4.1))) rfl rfl (does_add rfl rfl) ?_
  refine okL_step 7 (tI (w64 (15 + r4.1))) rfl rfl (does_assign rfl) ?_
  refine okL_nil ?_
  refine okX_next ?_
  obtain ⟨z8, h10, hz9⟩ := bs h
  refine okC_meet (X := (Int × Int)) (fun x => z8 = x) (fun x : (Int × Int) => [(0, (tI a0)), (3, (pAt g1 0)), (4, (pAt g2 0)), (5, (pAt g3 0)), (7, (tI x.1))]) (fun x : (Int × Int) => Item.blk g3 103 [(tI x.2)] :: Item.blk g2 48 [(tI 0), (tI 0), (tI 0), (tI 0), (tI 0), (Ty.val (.slice none 0 0))] :: Item.blk g1 27 [(tI a1.Params), (tI a1.Regs), Ty.any] :: L) ?_ ?_
  · refine okC_seq ?_
    refine okC_region ?_
    refine okL_step 21 (pAt g3 0) rfl rfl (does_move rfl) ?_
    obtain ⟨r11, hc12, h10⟩ := bs h10
    refine okL_stepO 22 rfl rfl (doesO_call0 (Item.blk g2 48 [(tI 0), (tI 0), (tI 0), (tI 0), (tI 0), (Ty.val (.slice none 0 0))] :: Item.blk g1 27 [(tI a1.Params), (tI a1.Regs), Ty.any] :: L) (c_keep2_Digits_Next r4.2 24 g3 r11 hc12) rfl Tryd.call74 rfl (pm 0 rfl (pr _)) (fun _ => ?_))
    refine okL_step 8 (tI r11.1) rfl rfl (does_assign rfl) ?_
    refine okL_nil ?_
    refine okX_next ?_
    refine okC_seq ?_
    refine okC_region ?_
    refine okL_step 23 (tI r11.1) rfl rfl (does_move rfl) ?_
    refine okL_step 24 (tL 1 lI ([3, 6, 9, 10, 11, 12, 13, 33, 34, 35, 10, 9] : List Int)) rfl rfl (does_move rfl) ?_
    refine okL_step 25 (tI ((([3, 6, 9, 10, 11, 12, 13, 33, 34, 35, 10, 9] : List Int)).length : Int)) rfl rfl (does_len (sz := 1) (f := lI) (l := ([3, 6, 9, 10, 11, 12, 13, 33, 34, 35, 10, 9] : List Int)) rfl Tryd.underlying31 rfl) ?_
    refine okL_step 26 (tB (decide (r11.1 < ((([3, 6, 9, 10, 11, 12, 13, 33, 34, 35, 10, 9] : List Int)).length : Int)))) rfl rfl (does_lss rfl rfl) ?_
    refine okL_nil ?_
    refine okX_next ?_
    refine okC_cond (b := (decide (r11.1 < ((([3, 6, 9, 10, 11, 12, 13, 33, 34, 35, 10, 9] : List Int)).length : Int)))) rfl (fun hb13 => ?_) (fun hb13 => ?_)
    · replace h10 := ct hb13 h10
      refine okC_region ?_
      refine okL_step 27 (tL 1 lI ([3, 6, 9, 10, 11, 12, 13, 33, 34, 35, 10, 9] : List Int)) rfl rfl (does_move rfl) ?_
      refine okL_step 28 (tI r11.1) rfl rfl (does_move rfl) ?_
      obtain ⟨y14, hi15, h10⟩ := bs h10
      refine okL_step 29 (Ty.ptr [(tI y14)]) rfl rfl (does_index (sz := 1) (f := lI) (l := ([3, 6, 9, 10, 11, 12, 13, 33, 34, 35, 10, 9] : List Int)) (n := r11.1) y14 Tryd.underlying31 Tryd.sizeOf3 hi15 rfl rfl) ?_
      refine okL_step 30 (tI y14) rfl rfl (does_load1 Tryd.isAgg3 rfl) ?_
      refine okL_step 7 (tI y14) rfl rfl (does_assign rfl) ?_
      refine okL_nil ?_
      exact okX_meet (I := _) (y14, r11.2.N) (smh h10) (cc rfl (cc rfl (cc rfl (cc rfl (cc rfl cn))))) rfl
    · replace h10 := cf hb13 h10
      refine okC_skip ?_
      exact okX_meet (I := _) ((w64 (15 + r4.1)), r11.2.N) (smh h10) (cc rfl (cc rfl (cc rfl (cc rfl (cc rfl cn))))) rfl
  · intro s6 hx
    change OkC _ _ _ [(0, (tI a0)), (3, (pAt g1 0)), (4, (pAt g2 0)), (5, (pAt g3 0)), (7, (tI s6.1))] (Item.blk g3 103 [(tI s6.2)] :: Item.blk g2 48 [(tI 0), (tI 0), (tI 0), (tI 0), (tI 0), (Ty.val (.slice none 0 0))] :: Item.blk g1 27 [(tI a1.Params), (tI a1.Regs), Ty.any] :: L)
    obtain rfl : s6 = z8 := hx.symm
    replace h := hz9
    refine okC_seq ?_
    refine okC_region ?_
    refine okL_step 31 (tI s6.1) rfl rfl (does_move rfl) ?_
    refine okL_step 32 (Ty.agg [(tI s6.1), (tI 0), (tI 0), (tI 0), (tI 0)]) rfl rfl (does_build [(tI s6.1), (tI 0), (tI 0), (tI 0), (tI 0)] Tryd.zeroValue46 Tryd.underlying46 (places46 _ Tryd.underlying46) rfl (fc [(tI s6.1)] 0 rfl (part_one (one_i _)) rfl rfl (fn_ rfl))) ?_
    refine okL_step 33 (Ty.agg [(tI s6.1), (tI 0), (tI 0), (tI 0), (tI 0), (Ty.val (.slice none 0 0))]) rfl rfl (does_build [(tI s6.1), (tI 0), (tI 0), (tI 0), (tI 0), (Ty.val (.slice none 0 0))] Tryd.zeroValue48 Tryd.underlying48 (places48 _ Tryd.underlying48) rfl (fc [(tI s6.1), (tI 0), (tI 0), (tI 0), (tI 0)] 0 rfl (part_agg _) rfl rfl (fn_ rfl))) ?_
    refine okL_stepO 9 rfl rfl (doesO_alloc [(tI 0), (tI 0), (tI 0), (tI 0), (tI 0), (Ty.val (.slice none 0 0))] Tryd.zeroValue48 (part_of (sub_agg [(.int .i64 0), (.int .i64 0), (.int .i64 0), (.int .i64 0), (.int .i64 0), (.slice none 0 0)] rfl) (part_agg _)) (fun g16 => ?_))
    refine okL_stepU rfl (doesO_storeB (ps := [(tI s6.1), (tI 0), (tI 0), (tI 0), (tI 0), (Ty.val (.slice none 0 0))]) 0 [(tI s6.1), (tI 0), (tI 0), (tI 0), (tI 0), (Ty.val (.slice none 0 0))] (Item.blk g16 48 [(tI s6.1), (tI 0), (tI 0), (tI 0), (tI 0), (Ty.val (.slice none 0 0))] :: Item.blk g3 103 [(tI s6.2)] :: Item.blk g2 48 [(tI 0), (tI 0), (tI 0), (tI 0), (tI 0), (Ty.val (.slice none 0 0))] :: Item.blk g1 27 [(tI a1.Params), (tI a1.Regs), Ty.any] :: L) rfl rfl (part_agg _) Tryd.sizeOf48 rfl rfl rfl rfl ?_)
    refine okL_nil ?_
    refine okX_next ?_
    refine okC_seq ?_
    refine okC_region ?_
    refine okL_step 35 (tI s6.1) rfl rfl (does_move rfl) ?_
    obtain ⟨r17, hc18, h⟩ := bs h
    refine okL_step 36 (Ty.tup [(Ty.agg [(tS r17.1.Name), (tI r17.1.Form), (tB r17.1.ReadsA), (tB r17.1.WritesA), (tB r17.1.ReadsB), (tB r17.1.MayTrap), (tI r17.1.Words)]), (tB r17.2)]) rfl rfl (does_call0 (c_ref29_Info s6.1 r17 hc18) rfl Tryd.call99 rfl) ?_
    refine okL_step 34 (Ty.tup [(Ty.agg [(tS r17.1.Name), (tI r17.1.Form), (tB r17.1.ReadsA), (tB r17.1.WritesA), (tB r17.1.ReadsB), (tB r17.1.MayTrap), (tI r17.1.Words)]), (tB r17.2)]) rfl rfl (does_move rfl) ?_
    refine okL_step 37 (Ty.agg [(tS r17.1.Name), (tI r17.1.Form), (tB r17.1.ReadsA), (tB r17.1.WritesA), (tB r17.1.ReadsB), (tB r17.1.MayTrap), (tI r17.1.Words)]) rfl rfl (does_extract rfl rfl) ?_
    refine okL_step 38 (tB r17.2) rfl rfl (does_extract rfl rfl) ?_
    refine okL_stepO 10 rfl rfl (doesO_alloc [(tS ⟨#[]⟩), (tI 0), (tB false), (tB false), (tB false), (tB false), (tI 0)] Tryd.zeroValue113 (part_of (sub_agg [(.string ⟨#[]⟩), (.int .i64 0), (.bool false), (.bool false), (.bool false), (.bool false), (.int .i64 0)] rfl) (part_agg _)) (fun g19 => ?_))
    refine okL_stepU rfl (doesO_storeB (ps := [(tS r17.1.Name), (tI r17.1.Form), (tB r17.1.ReadsA), (tB r17.1.WritesA), (tB r17.1.ReadsB), (tB r17.1.MayTrap), (tI r17.1.Words)]) 0 [(tS r17.1.Name), (tI r17.1.Form), (tB r17.1.ReadsA), (tB r17.1.WritesA), (tB r17.1.ReadsB), (tB r17.1.MayTrap), (tI r17.1.Words)] (Item.blk g19 113 [(tS r17.1.Name), (tI r17.1.Form), (tB r17.1.ReadsA), (tB r17.1.WritesA), (tB r17.1.ReadsB), (tB r17.1.MayTrap), (tI r17.1.Words)] :: Item.blk g16 48 [(tI s6.1), (tI 0), (tI 0), (tI 0), (tI 0), (Ty.val (.slice none 0 0))] :: Item.blk g3 103 [(tI s6.2)] :: Item.blk g2 48 [(tI 0), (tI 0), (tI 0), (tI 0), (tI 0), (Ty.val (.slice none 0 0))] :: Item.blk g1 27 [(tI a1.Params), (tI a1.Regs), Ty.any] :: L) rfl rfl (part_agg _) Tryd.sizeOf113 rfl rfl rfl rfl ?_)
    refine okL_step 11 (tB r17.2) rfl rfl (does_assign rfl) ?_
    refine okL_nil ?_
    refine okX_next ?_
    refine okC_seq ?_
    refine okC_region ?_
    refine okL_step 39 (pAt g19 1) rfl rfl (does_fieldAddrP 1 Tryd.underlying113 rfl Tryd.sizeOf3 rfl rfl) ?_
    refine okL_step 40 (tI r17.1.Form) rfl rfl (does_loadB1 Tryd.isAgg3 rfl 0 rfl rfl) ?_
    refine okL_step 12 (tI r17.1.Form) rfl rfl (does_assign rfl) ?_
    refine okL_nil ?_
    refine okX_next ?_
    obtain ⟨z22, h24, hz23⟩ := bs h
    refine okC_meet (X := (Int × Int)) (fun x => z22 = x) (fun x : (Int × Int) => [(0, (tI a0)), (3, (pAt g1 0)), (4, (pAt g2 0)), (5, (pAt g3 0)), (7, (tI s6.1)), (9, (pAt g16 0)), (12, (tI r17.1.Form))]) (fun x : (Int × Int) => Item.blk g19 113 [(tS r17.1.Name), (tI r17.1.Form), (tB r17.1.ReadsA), (tB r17.1.WritesA), (tB r17.1.ReadsB), (tB r17.1.MayTrap), (tI r17.1.Words)] :: Item.blk g16 48 [(tI s6.1), (tI x.1), (tI 0), (tI 0), (tI 0), (Ty.val (.slice none 0 0))] :: Item.blk g3 103 [(tI x.2)] :: Item.blk g2 48 [(tI 0), (tI 0), (tI 0), (tI 0), (tI 0), (Ty.val (.slice none 0 0))] :: Item.blk g1 27 [(tI a1.Params), (tI a1.Regs), Ty.any] :: L) ?_ ?_
    · refine okC_seq ?_
      refine okC_region ?_
      refine okL_step 41 (tI r17.1.Form) rfl rfl (does_move rfl) ?_
      refine okL_step 42 (tB (r17.1.Form != 1)) rfl rfl (does_neq rfl rfl) ?_
      refine okL_nil ?_
      refine okX_next ?_
      refine okC_cond (b := (r17.1.Form != 1)) rfl (fun hb25 => ?_) (fun hb25 => ?_)
      · replace h24 := ct hb25 h24
        refine okC_region ?_
        refine okL_step 43 (pAt g3 0) rfl rfl (does_move rfl) ?_
        refine okL_step 44 (pAt g1 1) rfl rfl (does_fieldAddrP 1 Tryd.underlying27 rfl Tryd.sizeOf3 rfl rfl) ?_
        refine okL_step 45 (tI a1.Regs) rfl rfl (does_loadB1 Tryd.isAgg3 rfl 4 rfl rfl) ?_
        obtain ⟨r26, hc27, h24⟩ := bs h24
        refine okL_stepO 46 rfl rfl (doesO_call0 (Item.blk g19 113 [(tS r17.1.Name), (tI r17.1.Form), (tB r17.1.ReadsA), (tB r17.1.WritesA), (tB r17.1.ReadsB), (tB r17.1.MayTrap), (tI r17.1.Words)] :: Item.blk g16 48 [(tI s6.1), (tI 0), (tI 0), (tI 0), (tI 0), (Ty.val (.slice none 0 0))] :: Item.blk g2 48 [(tI 0), (tI 0), (tI 0), (tI 0), (tI 0), (Ty.val (.slice none 0 0))] :: Item.blk g1 27 [(tI a1.Params), (tI a1.Regs), Ty.any] :: L) (c_keep2_Digits_Next (⟨s6.2⟩ : Fullingkeep2Digits) a1.Regs g3 r26 hc27) rfl Tryd.call74 rfl (pm 2 rfl (pr _)) (fun _ => ?_))
        refine okL_step 47 (pAt g16 0) rfl rfl (does_fieldAddrP 0 Tryd.underlying48 rfl Tryd.sizeOf46 rfl rfl) ?_
        refine okL_step 48 (pAt g16 1) rfl rfl (does_fieldAddrP 1 Tryd.underlying46 rfl Tryd.sizeOf3 rfl rfl) ?_
        refine okL_stepU rfl (doesO_storeB (ps := [(tI r26.1)]) 2 [(tI s6.1), (tI r26.1), (tI 0), (tI 0), (tI 0), (Ty.val (.slice none 0 0))] (Item.blk g3 103 [(tI r26.2.N)] :: Item.blk g19 113 [(tS r17.1.Name), (tI r17.1.Form), (tB r17.1.ReadsA), (tB r17.1.WritesA), (tB r17.1.ReadsB), (tB r17.1.MayTrap), (tI r17.1.Words)] :: Item.blk g16 48 [(tI s6.1), (tI r26.1), (tI 0), (tI 0), (tI 0), (Ty.val (.slice none 0 0))] :: Item.blk g2 48 [(tI 0), (tI 0), (tI 0), (tI 0), (tI 0), (Ty.val (.slice none 0 0))] :: Item.blk g1 27 [(tI a1.Params), (tI a1.Regs), Ty.any] :: L) rfl rfl (part_one (one_i _)) Tryd.sizeOf3 rfl rfl rfl rfl ?_)
        refine okL_nil ?_
        refine okX_items [] (Item.blk g19 113 [(tS r17.1.Name), (tI r17.1.Form), (tB r17.1.ReadsA), (tB r17.1.WritesA), (tB r17.1.ReadsB), (tB r17.1.MayTrap), (tI r17.1.Words)] :: Item.blk g16 48 [(tI s6.1), (tI r26.1), (tI 0), (tI 0), (tI 0), (Ty.val (.slice none 0 0))] :: Item.blk g3 103 [(tI r26.2.N)] :: Item.blk g2 48 [(tI 0), (tI 0), (tI 0), (tI 0), (tI 0), (Ty.val (.slice none 0 0))] :: Item.blk g1 27 [(tI a1.Params), (tI a1.Regs), Ty.any] :: L) (pm 1 rfl (pm 1 rfl (pm 0 rfl (pm 0 rfl (pm 0 rfl (pr _)))))) ?_
        exact okX_meet (I := _) (r26.1, r26.2.N) (smh h24) (cc rfl (cc rfl (cc rfl (cc rfl (cc rfl (cc rfl (cc rfl cn))))))) rfl
      · replace h24 := cf hb25 h24
        refine okC_skip ?_
        exact okX_meet (I := _) (0, s6.2) (smh h24) (cc rfl (cc rfl (cc rfl (cc rfl (cc rfl (cc rfl (cc rfl cn))))))) rfl
    · intro s20 hx
      change OkC _ _ _ [(0, (tI a0)), (3, (pAt g1 0)), (4, (pAt g2 0)), (5, (pAt g3 0)), (7, (tI s6.1)), (9, (pAt g16 0)), (12, (tI r17.1.Form))] (Item.blk g19 113 [(tS r17.1.Name), (tI r17.1.Form), (tB r17.1.ReadsA), (tB r17.1.WritesA), (tB r17.1.ReadsB), (tB r17.1.MayTrap), (tI r17.1.Words)] :: Item.blk g16 48 [(tI s6.1), (tI s20.1), (tI 0), (tI 0), (tI 0), (Ty.val (.slice none 0 0))] :: Item.blk g3 103 [(tI s20.2)] :: Item.blk g2 48 [(tI 0), (tI 0), (tI 0), (tI 0), (tI 0), (Ty.val (.slice none 0 0))] :: Item.blk g1 27 [(tI a1.Params), (tI a1.Regs), Ty.any] :: L)
      obtain rfl : s20 = z22 := hx.symm
      replace h := hz23
      obtain ⟨z30, h32, hz31⟩ := bs h
      refine okC_meet (X := (Int × Int)) (fun x => z30 = x) (fun x : (Int × Int) => [(0, (tI a0)), (3, (pAt g1 0)), (4, (pAt g2 0)), (5, (pAt g3 0)), (7, (tI s6.1)), (9, (pAt g16 0)), (12, (tI r17.1.Form))]) (fun x : (Int × Int) => Item.blk g19 113 [(tS r17.1.Name), (tI r17.1.Form), (tB r17.1.ReadsA), (tB r17.1.WritesA), (tB r17.1.ReadsB), (tB r17.1.MayTrap), (tI r17.1.Words)] :: Item.blk g16 48 [(tI s6.1), (tI s20.1), (tI x.1), (tI 0), (tI 0), (Ty.val (.slice none 0 0))] :: Item.blk g3 103 [(tI x.2)] :: Item.blk g2 48 [(tI 0), (tI 0), (tI 0), (tI 0), (tI 0), (Ty.val (.slice none 0 0))] :: Item.blk g1 27 [(tI a1.Params), (tI a1.Regs), Ty.any] :: L) ?_ ?_
      · refine okC_seq ?_
        refine okC_region ?_
        refine okL_step 49 (tI r17.1.Form) rfl rfl (does_move rfl) ?_
        refine okL_step 50 (tB (r17.1.Form == 3)) rfl rfl (does_eql rfl rfl) ?_
        refine okL_step 51 (tB (r17.1.Form == 3)) rfl rfl (does_move rfl) ?_
        refine okL_meet (X := Bool) 3 (fun x => x = ((r17.1.Form == 3) || (r17.1.Form == 4))) (fun x : Bool => [(0, (tI a0)), (3, (pAt g1 0)), (4, (pAt g2 0)), (5, (pAt g3 0)), (7, (tI s6.1)), (9, (pAt g16 0)), (12, (tI r17.1.Form)), (54, (tB x))]) (fun x : Bool => Item.blk g19 113 [(tS r17.1.Name), (tI r17.1.Form), (tB r17.1.ReadsA), (tB r17.1.WritesA), (tB r17.1.ReadsB), (tB r17.1.MayTrap), (tI r17.1.Words)] :: Item.blk g16 48 [(tI s6.1), (tI s20.1), (tI 0), (tI 0), (tI 0), (Ty.val (.slice none 0 0))] :: Item.blk g3 103 [(tI s20.2)] :: Item.blk g2 48 [(tI 0), (tI 0), (tI 0), (tI 0), (tI 0), (Ty.val (.slice none 0 0))] :: Item.blk g1 27 [(tI a1.Params), (tI a1.Regs), Ty.any] :: L) _ rfl ?_ ?_
        · refine okL_split (r17.1.Form == 3) (fun hb33 => ?_) (fun hb33 => ?_)
          · refine okL_skip 52 51 (r17.1.Form == 3) rfl rfl hb33 rfl rfl ?_
            refine okL_skip 53 51 (r17.1.Form == 3) rfl rfl hb33 rfl rfl ?_
            refine okL_step 54 (tB true) rfl rfl (does_pick_t (r17.1.Form == 3) rfl hb33 rfl) ?_
            refine okL_nil ?_
            exact okX_meet (I := _) true (or_t hb33) (cc rfl (cc rfl (cc rfl (cc rfl (cc rfl (cc rfl (cc rfl (cc rfl cn)))))))) rfl
          · refine okL_guard 52 (tI r17.1.Form) 51 (r17.1.Form == 3) rfl rfl hb33 rfl rfl (does_move rfl) ?_
            refine okL_guard 53 (tB (r17.1.Form == 4)) 51 (r17.1.Form == 3) rfl rfl hb33 rfl rfl (does_eql rfl rfl) ?_
            refine okL_step 54 (tB (r17.1.Form == 4)) rfl rfl (does_pick_f (r17.1.Form == 3) rfl hb33 rfl) ?_
            refine okL_nil ?_
            exact okX_meet (I := _) (r17.1.Form == 4) (or_f hb33) (cc rfl (cc rfl (cc rfl (cc rfl (cc rfl (cc rfl (cc rfl (cc rfl cn)))))))) rfl
        · intro x39 hx
          subst hx
          change OkL _ _ _ _ [(0, (tI a0)), (3, (pAt g1 0)), (4, (pAt g2 0)), (5, (pAt g3 0)), (7, (tI s6.1)), (9, (pAt g16 0)), (12, (tI r17.1.Form)), (54, (tB ((r17.1.Form == 3) || (r17.1.Form == 4))))] (Item.blk g19 113 [(tS r17.1.Name), (tI r17.1.Form), (tB r17.1.ReadsA), (tB r17.1.WritesA), (tB r17.1.ReadsB), (tB r17.1.MayTrap), (tI r17.1.Words)] :: Item.blk g16 48 [(tI s6.1), (tI s20.1), (tI 0), (tI 0), (tI 0), (Ty.val (.slice none 0 0))] :: Item.blk g3 103 [(tI s20.2)] :: Item.blk g2 48 [(tI 0), (tI 0), (tI 0), (tI 0), (tI 0), (Ty.val (.slice none 0 0))] :: Item.blk g1 27 [(tI a1.Params), (tI a1.Regs), Ty.any] :: L)
          refine okL_step 55 (tB ((r17.1.Form == 3) || (r17.1.Form == 4))) rfl rfl (does_move rfl) ?_
          refine okL_meet (X := Bool) 3 (fun x => x = (((r17.1.Form == 3) || (r17.1.Form == 4)) || (r17.1.Form == 7))) (fun x : Bool => [(0, (tI a0)), (3, (pAt g1 0)), (4, (pAt g2 0)), (5, (pAt g3 0)), (7, (tI s6.1)), (9, (pAt g16 0)), (12, (tI r17.1.Form)), (58, (tB x))]) (fun x : Bool => Item.blk g19 113 [(tS r17.1.Name), (tI r17.1.Form), (tB r17.1.ReadsA), (tB r17.1.WritesA), (tB r17.1.ReadsB), (tB r17.1.MayTrap), (tI r17.1.Words)] :: Item.blk g16 48 [(tI s6.1), (tI s20.1), (tI 0), (tI 0), (tI 0), (Ty.val (.slice none 0 0))] :: Item.blk g3 103 [(tI s20.2)] :: Item.blk g2 48 [(tI 0), (tI 0), (tI 0), (tI 0), (tI 0), (Ty.val (.slice none 0 0))] :: Item.blk g1 27 [(tI a1.Params), (tI a1.Regs), Ty.any] :: L) _ rfl ?_ ?_
          · refine okL_split ((r17.1.Form == 3) || (r17.1.Form == 4)) (fun hb34 => ?_) (fun hb34 => ?_)
            · refine okL_skip 56 55 ((r17.1.Form == 3) || (r17.1.Form == 4)) rfl rfl hb34 rfl rfl ?_
              refine okL_skip 57 55 ((r17.1.Form == 3) || (r17.1.Form == 4)) rfl rfl hb34 rfl rfl ?_
              refine okL_step 58 (tB true) rfl rfl (does_pick_t ((r17.1.Form == 3) || (r17.1.Form == 4)) rfl hb34 rfl) ?_
              refine okL_nil ?_
              exact okX_meet (I := _) true (or_t hb34) (cc rfl (cc rfl (cc rfl (cc rfl (cc rfl (cc rfl (cc rfl (cc rfl cn)))))))) rfl
            · refine okL_guard 56 (tI r17.1.Form) 55 ((r17.1.Form == 3) || (r17.1.Form == 4)) rfl rfl hb34 rfl rfl (does_move rfl) ?_
              refine okL_guard 57 (tB (r17.1.Form == 7)) 55 ((r17.1.Form == 3) || (r17.1.Form == 4)) rfl rfl hb34 rfl rfl (does_eql rfl rfl) ?_
              refine okL_step 58 (tB (r17.1.Form == 7)) rfl rfl (does_pick_f ((r17.1.Form == 3) || (r17.1.Form == 4)) rfl hb34 rfl) ?_
              refine okL_nil ?_
              exact okX_meet (I := _) (r17.1.Form == 7) (or_f hb34) (cc rfl (cc rfl (cc rfl (cc rfl (cc rfl (cc rfl (cc rfl (cc rfl cn)))))))) rfl
          · intro x38 hx
            subst hx
            change OkL _ _ _ _ [(0, (tI a0)), (3, (pAt g1 0)), (4, (pAt g2 0)), (5, (pAt g3 0)), (7, (tI s6.1)), (9, (pAt g16 0)), (12, (tI r17.1.Form)), (58, (tB (((r17.1.Form == 3) || (r17.1.Form == 4)) || (r17.1.Form == 7))))] (Item.blk g19 113 [(tS r17.1.Name), (tI r17.1.Form), (tB r17.1.ReadsA), (tB r17.1.WritesA), (tB r17.1.ReadsB), (tB r17.1.MayTrap), (tI r17.1.Words)] :: Item.blk g16 48 [(tI s6.1), (tI s20.1), (tI 0), (tI 0), (tI 0), (Ty.val (.slice none 0 0))] :: Item.blk g3 103 [(tI s20.2)] :: Item.blk g2 48 [(tI 0), (tI 0), (tI 0), (tI 0), (tI 0), (Ty.val (.slice none 0 0))] :: Item.blk g1 27 [(tI a1.Params), (tI a1.Regs), Ty.any] :: L)
            refine okL_nil ?_
            refine okX_next ?_
            refine okC_cond (b := (((r17.1.Form == 3) || (r17.1.Form == 4)) || (r17.1.Form == 7))) rfl (fun hb35 => ?_) (fun hb35 => ?_)
            · replace h32 := ct hb35 h32
              refine okC_region ?_
              refine okL_step 59 (pAt g3 0) rfl rfl (does_move rfl) ?_
              refine okL_step 60 (pAt g1 1) rfl rfl (does_fieldAddrP 1 Tryd.underlying27 rfl Tryd.sizeOf3 rfl rfl) ?_
              refine okL_step 61 (tI a1.Regs) rfl rfl (does_loadB1 Tryd.isAgg3 rfl 4 rfl rfl) ?_
              obtain ⟨r36, hc37, h32⟩ := bs h32
              refine okL_stepO 62 rfl rfl (doesO_call0 (Item.blk g19 113 [(tS r17.1.Name), (tI r17.1.Form), (tB r17.1.ReadsA), (tB r17.1.WritesA), (tB r17.1.ReadsB), (tB r17.1.MayTrap), (tI r17.1.Words)] :: Item.blk g16 48 [(tI s6.1), (tI s20.1), (tI 0), (tI 0), (tI 0), (Ty.val (.slice none 0 0))] :: Item.blk g2 48 [(tI 0), (tI 0), (tI 0), (tI 0), (tI 0), (Ty.val (.slice none 0 0))] :: Item.blk g1 27 [(tI a1.Params), (tI a1.Regs), Ty.any] :: L) (c_keep2_Digits_Next (⟨s20.2⟩ : Fullingkeep2Digits) a1.Regs g3 r36 hc37) rfl Tryd.call74 rfl (pm 2 rfl (pr _)) (fun _ => ?_))
              refine okL_step 63 (pAt g16 0) rfl rfl (does_fieldAddrP 0 Tryd.underlying48 rfl Tryd.sizeOf46 rfl rfl) ?_
              refine okL_step 64 (pAt g16 2) rfl rfl (does_fieldAddrP 2 Tryd.underlying46 rfl Tryd.sizeOf3 rfl rfl) ?_
              refine okL_stepU rfl (doesO_storeB (ps := [(tI r36.1)]) 2 [(tI s6.1), (tI s20.1), (tI r36.1), (tI 0), (tI 0), (Ty.val (.slice none 0 0))] (Item.blk g3 103 [(tI r36.2.N)] :: Item.blk g19 113 [(tS r17.1.Name), (tI r17.1.Form), (tB r17.1.ReadsA), (tB r17.1.WritesA), (tB r17.1.ReadsB), (tB r17.1.MayTrap), (tI r17.1.Words)] :: Item.blk g16 48 [(tI s6.1), (tI s20.1), (tI r36.1), (tI 0), (tI 0), (Ty.val (.slice none 0 0))] :: Item.blk g2 48 [(tI 0), (tI 0), (tI 0), (tI 0), (tI 0), (Ty.val (.slice none 0 0))] :: Item.blk g1 27 [(tI a1.Params), (tI a1.Regs), Ty.any] :: L) rfl rfl (part_one (one_i _)) Tryd.sizeOf3 rfl rfl rfl rfl ?_)
              refine okL_nil ?_
              refine okX_items [] (Item.blk g19 113 [(tS r17.1.Name), (tI r17.1.Form), (tB r17.1.ReadsA), (tB r17.1.WritesA), (tB r17.1.ReadsB), (tB r17.1.MayTrap), (tI r17.1.Words)] :: Item.blk g16 48 [(tI s6.1), (tI s20.1), (tI r36.1), (tI 0), (tI 0), (Ty.val (.slice none 0 0))] :: Item.blk g3 103 [(tI r36.2.N)] :: Item.blk g2 48 [(tI 0), (tI 0), (tI 0), (tI 0), (tI 0), (Ty.val (.slice none 0 0))] :: Item.blk g1 27 [(tI a1.Params), (tI a1.Regs), Ty.any] :: L) (pm 1 rfl (pm 1 rfl (pm 0 rfl (pm 0 rfl (pm 0 rfl (pr _)))))) ?_
              exact okX_meet (I := _) (r36.1, r36.2.N) (smh h32) (cc rfl (cc rfl (cc rfl (cc rfl (cc rfl (cc rfl (cc rfl cn))))))) rfl
            · replace h32 := cf hb35 h32
              refine okC_skip ?_
              exact okX_meet (I := _) (0, s20.2) (smh h32) (cc rfl (cc rfl (cc rfl (cc rfl (cc rfl (cc rfl (cc rfl cn))))))) rfl
      · intro s28 hx
        change OkC _ _ _ [(0, (tI a0)), (3, (pAt g1 0)), (4, (pAt g2 0)), (5, (pAt g3 0)), (7, (tI s6.1)), (9, (pAt g16 0)), (12, (tI r17.1.Form))] (Item.blk g19 113 [(tS r17.1.Name), (tI r17.1.Form), (tB r17.1.ReadsA), (tB r17.1.WritesA), (tB r17.1.ReadsB), (tB r17.1.MayTrap), (tI r17.1.Words)] :: Item.blk g16 48 [(tI s6.1), (tI s20.1), (tI s28.1), (tI 0), (tI 0), (Ty.val (.slice none 0 0))] :: Item.blk g3 103 [(tI s28.2)] :: Item.blk g2 48 [(tI 0), (tI 0), (tI 0), (tI 0), (tI 0), (Ty.val (.slice none 0 0))] :: Item.blk g1 27 [(tI a1.Params), (tI a1.Regs), Ty.any] :: L)
        obtain rfl : s28 = z30 := hx.symm
        replace h := hz31
        obtain ⟨z42, h44, hz43⟩ := bs h
        refine okC_meet (X := (Int × Int)) (fun x => z42 = x) (fun x : (Int × Int) => [(0, (tI a0)), (3, (pAt g1 0)), (4, (pAt g2 0)), (5, (pAt g3 0)), (7, (tI s6.1)), (9, (pAt g16 0))]) (fun x : (Int × Int) => Item.blk g19 113 [(tS r17.1.Name), (tI r17.1.Form), (tB r17.1.ReadsA), (tB r17.1.WritesA), (tB r17.1.ReadsB), (tB r17.1.MayTrap), (tI r17.1.Words)] :: Item.blk g16 48 [(tI s6.1), (tI s20.1), (tI s28.1), (tI x.1), (tI 0), (Ty.val (.slice none 0 0))] :: Item.blk g3 103 [(tI x.2)] :: Item.blk g2 48 [(tI 0), (tI 0), (tI 0), (tI 0), (tI 0), (Ty.val (.slice none 0 0))] :: Item.blk g1 27 [(tI a1.Params), (tI a1.Regs), Ty.any] :: L) ?_ ?_
        · refine okC_seq ?_
          refine okC_region ?_
          refine okL_step 65 (tI r17.1.Form) rfl rfl (does_move rfl) ?_
          refine okL_step 66 (tB (r17.1.Form == 4)) rfl rfl (does_eql rfl rfl) ?_
          refine okL_nil ?_
          refine okX_next ?_
          refine okC_cond (b := (r17.1.Form == 4)) rfl (fun hb45 => ?_) (fun hb45 => ?_)
          · replace h44 := ct hb45 h44
            refine okC_region ?_
            refine okL_step 67 (pAt g3 0) rfl rfl (does_move rfl) ?_
            refine okL_step 68 (pAt g1 1) rfl rfl (does_fieldAddrP 1 Tryd.underlying27 rfl Tryd.sizeOf3 rfl rfl) ?_
            refine okL_step 69 (tI a1.Regs) rfl rfl (does_loadB1 Tryd.isAgg3 rfl 4 rfl rfl) ?_
            obtain ⟨r46, hc47, h44⟩ := bs h44
            refine okL_stepO 70 rfl rfl (doesO_call0 (Item.blk g19 113 [(tS r17.1.Name), (tI r17.1.Form), (tB r17.1.ReadsA), (tB r17.1.WritesA), (tB r17.1.ReadsB), (tB r17.1.MayTrap), (tI r17.1.Words)] :: Item.blk g16 48 [(tI s6.1), (tI s20.1), (tI s28.1), (tI 0), (tI 0), (Ty.val (.slice none 0 0))] :: Item.blk g2 48 [(tI 0), (tI 0), (tI 0), (tI 0), (tI 0), (Ty.val (.slice none 0 0))] :: Item.blk g1 27 [(tI a1.Params), (tI a1.Regs), Ty.any] :: L) (c_keep2_Digits_Next (⟨s28.2⟩ : Fullingkeep2Digits) a1.Regs g3 r46 hc47) rfl Tryd.call74 rfl (pm 2 rfl (pr _)) (fun _ => ?_))
            refine okL_step 71 (pAt g16 0) rfl rfl (does_fieldAddrP 0 Tryd.underlying48 rfl Tryd.sizeOf46 rfl rfl) ?_
            refine okL_step 72 (pAt g16 3) rfl rfl (does_fieldAddrP 3 Tryd.underlying46 rfl Tryd.sizeOf3 rfl rfl) ?_
            refine okL_stepU rfl (doesO_storeB (ps := [(tI r46.1)]) 2 [(tI s6.1), (tI s20.1), (tI s28.1), (tI r46.1), (tI 0), (Ty.val (.slice none 0 0))] (Item.blk g3 103 [(tI r46.2.N)] :: Item.blk g19 113 [(tS r17.1.Name), (tI r17.1.Form), (tB r17.1.ReadsA), (tB r17.1.WritesA), (tB r17.1.ReadsB), (tB r17.1.MayTrap), (tI r17.1.Words)] :: Item.blk g16 48 [(tI s6.1), (tI s20.1), (tI s28.1), (tI r46.1), (tI 0), (Ty.val (.slice none 0 0))] :: Item.blk g2 48 [(tI 0), (tI 0), (tI 0), (tI 0), (tI 0), (Ty.val (.slice none 0 0))] :: Item.blk g1 27 [(tI a1.Params), (tI a1.Regs), Ty.any] :: L) rfl rfl (part_one (one_i _)) Tryd.sizeOf3 rfl rfl rfl rfl ?_)
            refine okL_nil ?_
            refine okX_items [] (Item.blk g19 113 [(tS r17.1.Name), (tI r17.1.Form), (tB r17.1.ReadsA), (tB r17.1.WritesA), (tB r17.1.ReadsB), (tB r17.1.MayTrap), (tI r17.1.Words)] :: Item.blk g16 48 [(tI s6.1), (tI s20.1), (tI s28.1), (tI r46.1), (tI 0), (Ty.val (.slice none 0 0))] :: Item.blk g3 103 [(tI r46.2.N)] :: Item.blk g2 48 [(tI 0), (tI 0), (tI 0), (tI 0), (tI 0), (Ty.val (.slice none 0 0))] :: Item.blk g1 27 [(tI a1.Params), (tI a1.Regs), Ty.any] :: L) (pm 1 rfl (pm 1 rfl (pm 0 rfl (pm 0 rfl (pm 0 rfl (pr _)))))) ?_
            exact okX_meet (I := _) (r46.1, r46.2.N) (smh h44) (cc rfl (cc rfl (cc rfl (cc rfl (cc rfl (cc rfl cn)))))) rfl
          · replace h44 := cf hb45 h44
            refine okC_skip ?_
            exact okX_meet (I := _) (0, s28.2) (smh h44) (cc rfl (cc rfl (cc rfl (cc rfl (cc rfl (cc rfl cn)))))) rfl
        · intro s40 hx
          change OkC _ _ _ [(0, (tI a0)), (3, (pAt g1 0)), (4, (pAt g2 0)), (5, (pAt g3 0)), (7, (tI s6.1)), (9, (pAt g16 0))] (Item.blk g19 113 [(tS r17.1.Name), (tI r17.1.Form), (tB r17.1.ReadsA), (tB r17.1.WritesA), (tB r17.1.ReadsB), (tB r17.1.MayTrap), (tI r17.1.Words)] :: Item.blk g16 48 [(tI s6.1), (tI s20.1), (tI s28.1), (tI s40.1), (tI 0), (Ty.val (.slice none 0 0))] :: Item.blk g3 103 [(tI s40.2)] :: Item.blk g2 48 [(tI 0), (tI 0), (tI 0), (tI 0), (tI 0), (Ty.val (.slice none 0 0))] :: Item.blk g1 27 [(tI a1.Params), (tI a1.Regs), Ty.any] :: L)
          obtain rfl : s40 = z42 := hx.symm
          replace h := hz43
          refine okC_nilrowB (sz := 1) lI 3 1 5 [(tI s6.1), (tI s20.1), (tI s28.1), (tI s40.1), (tI 0), (Ty.own (.slice none 0 0))] (rowL (.slice none 0 0) 3 1 lI ([] : List Int) :: Item.blk g19 113 [(tS r17.1.Name), (tI r17.1.Form), (tB r17.1.ReadsA), (tB r17.1.WritesA), (tB r17.1.ReadsB), (tB r17.1.MayTrap), (tI r17.1.Words)] :: Item.blk g16 48 [(tI s6.1), (tI s20.1), (tI s28.1), (tI s40.1), (tI 0), (Ty.own (.slice none 0 0))] :: Item.blk g3 103 [(tI s40.2)] :: Item.blk g2 48 [(tI 0), (tI 0), (tI 0), (tI 0), (tI 0), (Ty.val (.slice none 0 0))] :: Item.blk g1 27 [(tI a1.Params), (tI a1.Regs), Ty.any] :: L) rfl rfl rfl rfl ?_
          obtain ⟨z50, h52, hz51⟩ := bs h
          refine okC_meet (X := (((List Int) × Int × Int) × Value)) (fun x => z50 = x.1) (fun x : (((List Int) × Int × Int) × Value) => [(4, (pAt g2 0)), (9, (pAt g16 0))]) (fun x : (((List Int) × Int × Int) × Value) => rowL x.2 3 1 lI x.1.1 :: Item.blk g19 113 [(tS r17.1.Name), (tI r17.1.Form), (tB r17.1.ReadsA), (tB r17.1.WritesA), (tB r17.1.ReadsB), (tB r17.1.MayTrap), (tI r17.1.Words)] :: Item.blk g16 48 [(tI s6.1), (tI s20.1), (tI s28.1), (tI s40.1), (tI x.1.2.1), (Ty.own x.2)] :: Item.blk g3 103 [(tI x.1.2.2)] :: Item.blk g2 48 [(tI 0), (tI 0), (tI 0), (tI 0), (tI 0), (Ty.val (.slice none 0 0))] :: Item.blk g1 27 [(tI a1.Params), (tI a1.Regs), Ty.any] :: L) ?_ ?_
          · refine okC_seq ?_
            refine okC_region ?_
            refine okL_step 73 (tI s6.1) rfl rfl (does_move rfl) ?_
            refine okL_nil ?_
            refine okX_next ?_
            refine okC_block ?_
            refine okC_seq ?_
            refine okC_region ?_
            refine okL_step 75 (tB (s6.1 == 13)) rfl rfl (does_eql rfl rfl) ?_
            refine okL_step 74 (tB (s6.1 == 13)) rfl rfl (does_assign rfl) ?_
            refine okL_nil ?_
            refine okX_next ?_
            refine okC_cond (b := (s6.1 == 13)) rfl (fun hb53 => ?_) (fun hb53 => ?_)
            · replace h52 := ct hb53 h52
              refine okC_region ?_
              refine okL_step 76 (pAt g3 0) rfl rfl (does_move rfl) ?_
              obtain ⟨r54, hc55, h52⟩ := bs h52
              refine okL_stepO 77 rfl rfl (doesO_call0 (rowL (.slice none 0 0) 3 1 lI ([] : List Int) :: Item.blk g19 113 [(tS r17.1.Name), (tI r17.1.Form), (tB r17.1.ReadsA), (tB r17.1.WritesA), (tB r17.1.ReadsB), (tB r17.1.MayTrap), (tI r17.1.Words)] :: Item.blk g16 48 [(tI s6.1), (tI s20.1), (tI s28.1), (tI s40.1), (tI 0), (Ty.own (.slice none 0 0))] :: Item.blk g2 48 [(tI 0), (tI 0), (tI 0), (tI 0), (tI 0), (Ty.val (.slice none 0 0))] :: Item.blk g1 27 [(tI a1.Params), (tI a1.Regs), Ty.any] :: L) (c_keep2_Digits_Next (⟨s40.2⟩ : Fullingkeep2Digits) 400 g3 r54 hc55) rfl Tryd.call74 rfl (pm 3 rfl (pr _)) (fun _ => ?_))
              refine okL_step 78 (tI a0) rfl rfl (does_move rfl) ?_
              obtain ⟨r56, hc57, h52⟩ := bs h52
              refine okL_step 79 (tI r56) rfl rfl (does_call0 (c_keep_Word r54.1 a0 r56 hc57) rfl Tryd.call75 rfl) ?_
              refine okL_step 80 (pAt g16 0) rfl rfl (does_fieldAddrP 0 Tryd.underlying48 rfl Tryd.sizeOf46 rfl rfl) ?_
              refine okL_step 81 (pAt g16 4) rfl rfl (does_fieldAddrP 4 Tryd.underlying46 rfl Tryd.sizeOf2 rfl rfl) ?_
              refine okL_stepU rfl (doesO_storeB (ps := [(tI r56)]) 3 [(tI s6.1), (tI s20.1), (tI s28.1), (tI s40.1), (tI r56), (Ty.own (.slice none 0 0))] (Item.blk g3 103 [(tI r54.2.N)] :: rowL (.slice none 0 0) 3 1 lI ([] : List Int) :: Item.blk g19 113 [(tS r17.1.Name), (tI r17.1.Form), (tB r17.1.ReadsA), (tB r17.1.WritesA), (tB r17.1.ReadsB), (tB r17.1.MayTrap), (tI r17.1.Words)] :: Item.blk g16 48 [(tI s6.1), (tI s20.1), (tI s28.1), (tI s40.1), (tI r56), (Ty.own (.slice none 0 0))] :: Item.blk g2 48 [(tI 0), (tI 0), (tI 0), (tI 0), (tI 0), (Ty.val (.slice none 0 0))] :: Item.blk g1 27 [(tI a1.Params), (tI a1.Regs), Ty.any] :: L) rfl rfl (part_one (one_i _)) Tryd.sizeOf2 rfl rfl rfl rfl ?_)
              refine okL_nil ?_
              refine okX_block_normal ?_
              refine okX_items [] (rowL (.slice none 0 0) 3 1 lI ([] : List Int) :: Item.blk g19 113 [(tS r17.1.Name), (tI r17.1.Form), (tB r17.1.ReadsA), (tB r17.1.WritesA), (tB r17.1.ReadsB), (tB r17.1.MayTrap), (tI r17.1.Words)] :: Item.blk g16 48 [(tI s6.1), (tI s20.1), (tI s28.1), (tI s40.1), (tI r56), (Ty.own (.slice none 0 0))] :: Item.blk g3 103 [(tI r54.2.N)] :: Item.blk g2 48 [(tI 0), (tI 0), (tI 0), (tI 0), (tI 0), (Ty.val (.slice none 0 0))] :: Item.blk g1 27 [(tI a1.Params), (tI a1.Regs), Ty.any] :: L) (pm 1 rfl (pm 1 rfl (pm 1 rfl (pm 0 rfl (pm 0 rfl (pm 0 rfl (pr _))))))) ?_
              exact okX_meet (I := _) ((([] : List Int), r56, r54.2.N), (.slice none 0 0)) (smh h52) (cc rfl (cc rfl cn)) rfl
            · replace h52 := cf hb53 h52
              refine okC_seq ?_
              refine okC_region ?_
              refine okL_step 83 (tB (s6.1 == 33)) rfl rfl (does_eql rfl rfl) ?_
              refine okL_step 82 (tB (s6.1 == 33)) rfl rfl (does_assign rfl) ?_
              refine okL_nil ?_
              refine okX_next ?_
              refine okC_cond (b := (s6.1 == 33)) rfl (fun hb58 => ?_) (fun hb58 => ?_)
              · replace h52 := ct hb58 h52
                refine okC_region ?_
                refine okL_step 84 (pAt g3 0) rfl rfl (does_move rfl) ?_
                obtain ⟨r59, hc60, h52⟩ := bs h52
                refine okL_stepO 85 rfl rfl (doesO_call0 (rowL (.slice none 0 0) 3 1 lI ([] : List Int) :: Item.blk g19 113 [(tS r17.1.Name), (tI r17.1.Form), (tB r17.1.ReadsA), (tB r17.1.WritesA), (tB r17.1.ReadsB), (tB r17.1.MayTrap), (tI r17.1.Words)] :: Item.blk g16 48 [(tI s6.1), (tI s20.1), (tI s28.1), (tI s40.1), (tI 0), (Ty.own (.slice none 0 0))] :: Item.blk g2 48 [(tI 0), (tI 0), (tI 0), (tI 0), (tI 0), (Ty.val (.slice none 0 0))] :: Item.blk g1 27 [(tI a1.Params), (tI a1.Regs), Ty.any] :: L) (c_keep2_Digits_Next (⟨s40.2⟩ : Fullingkeep2Digits) 9 g3 r59 hc60) rfl Tryd.call74 rfl (pm 3 rfl (pr _)) (fun _ => ?_))
                refine okL_step 86 (tI (w64 (r59.1 - 4))) rfl rfl (does_sub rfl rfl) ?_
                refine okL_step 87 (pAt g16 0) rfl rfl (does_fieldAddrP 0 Tryd.underlying48 rfl Tryd.sizeOf46 rfl rfl) ?_
                refine okL_step 88 (pAt g16 4) rfl rfl (does_fieldAddrP 4 Tryd.underlying46 rfl Tryd.sizeOf2 rfl rfl) ?_
                refine okL_stepU rfl (doesO_storeB (ps := [(tI (w64 (r59.1 - 4)))]) 3 [(tI s6.1), (tI s20.1), (tI s28.1), (tI s40.1), (tI (w64 (r59.1 - 4))), (Ty.own (.slice none 0 0))] (Item.blk g3 103 [(tI r59.2.N)] :: rowL (.slice none 0 0) 3 1 lI ([] : List Int) :: Item.blk g19 113 [(tS r17.1.Name), (tI r17.1.Form), (tB r17.1.ReadsA), (tB r17.1.WritesA), (tB r17.1.ReadsB), (tB r17.1.MayTrap), (tI r17.1.Words)] :: Item.blk g16 48 [(tI s6.1), (tI s20.1), (tI s28.1), (tI s40.1), (tI (w64 (r59.1 - 4))), (Ty.own (.slice none 0 0))] :: Item.blk g2 48 [(tI 0), (tI 0), (tI 0), (tI 0), (tI 0), (Ty.val (.slice none 0 0))] :: Item.blk g1 27 [(tI a1.Params), (tI a1.Regs), Ty.any] :: L) rfl rfl (part_one (one_i _)) Tryd.sizeOf2 rfl rfl rfl rfl ?_)
                refine okL_nil ?_
                refine okX_block_normal ?_
                refine okX_items [] (rowL (.slice none 0 0) 3 1 lI ([] : List Int) :: Item.blk g19 113 [(tS r17.1.Name), (tI r17.1.Form), (tB r17.1.ReadsA), (tB r17.1.WritesA), (tB r17.1.ReadsB), (tB r17.1.MayTrap), (tI r17.1.Words)] :: Item.blk g16 48 [(tI s6.1), (tI s20.1), (tI s28.1), (tI s40.1), (tI (w64 (r59.1 - 4))), (Ty.own (.slice none 0 0))] :: Item.blk g3 103 [(tI r59.2.N)] :: Item.blk g2 48 [(tI 0), (tI 0), (tI 0), (tI 0), (tI 0), (Ty.val (.slice none 0 0))] :: Item.blk g1 27 [(tI a1.Params), (tI a1.Regs), Ty.any] :: L) (pm 1 rfl (pm 1 rfl (pm 1 rfl (pm 0 rfl (pm 0 rfl (pm 0 rfl (pr _))))))) ?_
                exact okX_meet (I := _) ((([] : List Int), (w64 (r59.1 - 4)), r59.2.N), (.slice none 0 0)) (smh h52) (cc rfl (cc rfl cn)) rfl
              · replace h52 := cf hb58 h52
                obtain ⟨z63, h65, hz64⟩ := bs h52
                refine okC_meet (X := Bool) (fun x => z63 = x) (fun x : Bool => [(3, (pAt g1 0)), (4, (pAt g2 0)), (5, (pAt g3 0)), (9, (pAt g16 0)), (73, (tI s6.1)), (89, (tB x))]) (fun x : Bool => rowL (.slice none 0 0) 3 1 lI ([] : List Int) :: Item.blk g19 113 [(tS r17.1.Name), (tI r17.1.Form), (tB r17.1.ReadsA), (tB r17.1.WritesA), (tB r17.1.ReadsB), (tB r17.1.MayTrap), (tI r17.1.Words)] :: Item.blk g16 48 [(tI s6.1), (tI s20.1), (tI s28.1), (tI s40.1), (tI 0), (Ty.own (.slice none 0 0))] :: Item.blk g3 103 [(tI s40.2)] :: Item.blk g2 48 [(tI 0), (tI 0), (tI 0), (tI 0), (tI 0), (Ty.val (.slice none 0 0))] :: Item.blk g1 27 [(tI a1.Params), (tI a1.Regs), Ty.any] :: L) ?_ ?_
                · refine okC_seq ?_
                  refine okC_region ?_
                  refine okL_step 90 (tB (s6.1 == 34)) rfl rfl (does_eql rfl rfl) ?_
                  refine okL_step 89 (tB (s6.1 == 34)) rfl rfl (does_assign rfl) ?_
                  refine okL_nil ?_
                  refine okX_next ?_
                  refine okC_cond (b := (s6.1 == 34)) rfl (fun hb66 => ?_) (fun hb66 => ?_)
                  · replace h65 := ct hb66 h65
                    refine okC_skip ?_
                    exact okX_meet (I := _) (s6.1 == 34) (smh h65) (cc rfl (cc rfl (cc rfl (cc rfl (cc rfl (cc rfl cn)))))) rfl
                  · replace h65 := cf hb66 h65
                    refine okC_region ?_
                    refine okL_step 91 (tB (s6.1 == 35)) rfl rfl (does_eql rfl rfl) ?_
                    refine okL_step 89 (tB (s6.1 == 35)) rfl rfl (does_assign rfl) ?_
                    refine okL_nil ?_
                    exact okX_meet (I := _) (s6.1 == 35) (smh h65) (cc rfl (cc rfl (cc rfl (cc rfl (cc rfl (cc rfl cn)))))) rfl
                · intro s61 hx
                  change OkC _ _ _ [(3, (pAt g1 0)), (4, (pAt g2 0)), (5, (pAt g3 0)), (9, (pAt g16 0)), (73, (tI s6.1)), (89, (tB s61))] (rowL (.slice none 0 0) 3 1 lI ([] : List Int) :: Item.blk g19 113 [(tS r17.1.Name), (tI r17.1.Form), (tB r17.1.ReadsA), (tB r17.1.WritesA), (tB r17.1.ReadsB), (tB r17.1.MayTrap), (tI r17.1.Words)] :: Item.blk g16 48 [(tI s6.1), (tI s20.1), (tI s28.1), (tI s40.1), (tI 0), (Ty.own (.slice none 0 0))] :: Item.blk g3 103 [(tI s40.2)] :: Item.blk g2 48 [(tI 0), (tI 0), (tI 0), (tI 0), (tI 0), (Ty.val (.slice none 0 0))] :: Item.blk g1 27 [(tI a1.Params), (tI a1.Regs), Ty.any] :: L)
                  obtain rfl : s61 = z63 := hx.symm
                  replace h52 := hz64
                  refine okC_cond (b := s61) rfl (fun hb67 => ?_) (fun hb67 => ?_)
                  · replace h52 := ct hb67 h52
                    refine okC_region ?_
                    refine okL_step 92 (pAt g3 0) rfl rfl (does_move rfl) ?_
                    obtain ⟨r68, hc69, h52⟩ := bs h52
                    refine okL_stepO 93 rfl rfl (doesO_call0 (rowL (.slice none 0 0) 3 1 lI ([] : List Int) :: Item.blk g19 113 [(tS r17.1.Name), (tI r17.1.Form), (tB r17.1.ReadsA), (tB r17.1.WritesA), (tB r17.1.ReadsB), (tB r17.1.MayTrap), (tI r17.1.Words)] :: Item.blk g16 48 [(tI s6.1), (tI s20.1), (tI s28.1), (tI s40.1), (tI 0), (Ty.own (.slice none 0 0))] :: Item.blk g2 48 [(tI 0), (tI 0), (tI 0), (tI 0), (tI 0), (Ty.val (.slice none 0 0))] :: Item.blk g1 27 [(tI a1.Params), (tI a1.Regs), Ty.any] :: L) (c_keep2_Digits_Next (⟨s40.2⟩ : Fullingkeep2Digits) 2 g3 r68 hc69) rfl Tryd.call74 rfl (pm 3 rfl (pr _)) (fun _ => ?_))
                    refine okL_step 94 (pAt g16 0) rfl rfl (does_fieldAddrP 0 Tryd.underlying48 rfl Tryd.sizeOf46 rfl rfl) ?_
                    refine okL_step 95 (pAt g16 4) rfl rfl (does_fieldAddrP 4 Tryd.underlying46 rfl Tryd.sizeOf2 rfl rfl) ?_
                    refine okL_stepU rfl (doesO_storeB (ps := [(tI r68.1)]) 3 [(tI s6.1), (tI s20.1), (tI s28.1), (tI s40.1), (tI r68.1), (Ty.own (.slice none 0 0))] (Item.blk g3 103 [(tI r68.2.N)] :: rowL (.slice none 0 0) 3 1 lI ([] : List Int) :: Item.blk g19 113 [(tS r17.1.Name), (tI r17.1.Form), (tB r17.1.ReadsA), (tB r17.1.WritesA), (tB r17.1.ReadsB), (tB r17.1.MayTrap), (tI r17.1.Words)] :: Item.blk g16 48 [(tI s6.1), (tI s20.1), (tI s28.1), (tI s40.1), (tI r68.1), (Ty.own (.slice none 0 0))] :: Item.blk g2 48 [(tI 0), (tI 0), (tI 0), (tI 0), (tI 0), (Ty.val (.slice none 0 0))] :: Item.blk g1 27 [(tI a1.Params), (tI a1.Regs), Ty.any] :: L) rfl rfl (part_one (one_i _)) Tryd.sizeOf2 rfl rfl rfl rfl ?_)
                    refine okL_nil ?_
                    refine okX_block_normal ?_
                    refine okX_items [] (rowL (.slice none 0 0) 3 1 lI ([] : List Int) :: Item.blk g19 113 [(tS r17.1.Name), (tI r17.1.Form), (tB r17.1.ReadsA), (tB r17.1.WritesA), (tB r17.1.ReadsB), (tB r17.1.MayTrap), (tI r17.1.Words)] :: Item.blk g16 48 [(tI s6.1), (tI s20.1), (tI s28.1), (tI s40.1), (tI r68.1), (Ty.own (.slice none 0 0))] :: Item.blk g3 103 [(tI r68.2.N)] :: Item.blk g2 48 [(tI 0), (tI 0), (tI 0), (tI 0), (tI 0), (Ty.val (.slice none 0 0))] :: Item.blk g1 27 [(tI a1.Params), (tI a1.Regs), Ty.any] :: L) (pm 1 rfl (pm 1 rfl (pm 1 rfl (pm 0 rfl (pm 0 rfl (pm 0 rfl (pr _))))))) ?_
                    exact okX_meet (I := _) ((([] : List Int), r68.1, r68.2.N), (.slice none 0 0)) (smh h52) (cc rfl (cc rfl cn)) rfl
                  · replace h52 := cf hb67 h52
                    refine okC_seq ?_
                    refine okC_region ?_
                    refine okL_step 97 (tB (s6.1 == 6)) rfl rfl (does_eql rfl rfl) ?_
                    refine okL_step 96 (tB (s6.1 == 6)) rfl rfl (does_assign rfl) ?_
                    refine okL_nil ?_
                    refine okX_next ?_
                    refine okC_cond (b := (s6.1 == 6)) rfl (fun hb70 => ?_) (fun hb70 => ?_)
                    · replace h52 := ct hb70 h52
                      refine okC_seq ?_
                      refine okC_region ?_
                      refine okL_step 98 (pAt g3 0) rfl rfl (does_move rfl) ?_
                      obtain ⟨r71, hc72, h52⟩ := bs h52
                      refine okL_stepO 99 rfl rfl (doesO_call0 (rowL (.slice none 0 0) 3 1 lI ([] : List Int) :: Item.blk g19 113 [(tS r17.1.Name), (tI r17.1.Form), (tB r17.1.ReadsA), (tB r17.1.WritesA), (tB r17.1.ReadsB), (tB r17.1.MayTrap), (tI r17.1.Words)] :: Item.blk g16 48 [(tI s6.1), (tI s20.1), (tI s28.1), (tI s40.1), (tI 0), (Ty.own (.slice none 0 0))] :: Item.blk g2 48 [(tI 0), (tI 0), (tI 0), (tI 0), (tI 0), (Ty.val (.slice none 0 0))] :: Item.blk g1 27 [(tI a1.Params), (tI a1.Regs), Ty.any] :: L) (c_keep2_Digits_Next (⟨s40.2⟩ : Fullingkeep2Digits) 2 g3 r71 hc72) rfl Tryd.call74 rfl (pm 3 rfl (pr _)) (fun _ => ?_))
                      refine okL_step 100 (pAt g16 0) rfl rfl (does_fieldAddrP 0 Tryd.underlying48 rfl Tryd.sizeOf46 rfl rfl) ?_
                      refine okL_step 101 (pAt g16 4) rfl rfl (does_fieldAddrP 4 Tryd.underlying46 rfl Tryd.sizeOf2 rfl rfl) ?_
                      refine okL_stepU rfl (doesO_storeB (ps := [(tI r71.1)]) 3 [(tI s6.1), (tI s20.1), (tI s28.1), (tI s40.1), (tI r71.1), (Ty.own (.slice none 0 0))] (Item.blk g3 103 [(tI r71.2.N)] :: rowL (.slice none 0 0) 3 1 lI ([] : List Int) :: Item.blk g19 113 [(tS r17.1.Name), (tI r17.1.Form), (tB r17.1.ReadsA), (tB r17.1.WritesA), (tB r17.1.ReadsB), (tB r17.1.MayTrap), (tI r17.1.Words)] :: Item.blk g16 48 [(tI s6.1), (tI s20.1), (tI s28.1), (tI s40.1), (tI r71.1), (Ty.own (.slice none 0 0))] :: Item.blk g2 48 [(tI 0), (tI 0), (tI 0), (tI 0), (tI 0), (Ty.val (.slice none 0 0))] :: Item.blk g1 27 [(tI a1.Params), (tI a1.Regs), Ty.any] :: L) rfl rfl (part_one (one_i _)) Tryd.sizeOf2 rfl rfl rfl rfl ?_)
                      refine okL_nil ?_
                      refine okX_next ?_
                      refine okC_seq ?_
                      refine okC_region ?_
                      refine okL_step 102 (pAt g16 0) rfl rfl (does_fieldAddrP 0 Tryd.underlying48 rfl Tryd.sizeOf46 rfl rfl) ?_
                      refine okL_step 103 (pAt g16 4) rfl rfl (does_fieldAddrP 4 Tryd.underlying46 rfl Tryd.sizeOf2 rfl rfl) ?_
                      refine okL_step 104 (tI r71.1) rfl rfl (does_loadB1 Tryd.isAgg2 rfl 3 rfl rfl) ?_
                      refine okL_step 105 (tI (w64 (2 - r71.1))) rfl rfl (does_sub rfl rfl) ?_
                      refine okL_step 13 (tI (w64 (2 - r71.1))) rfl rfl (does_assign rfl) ?_
                      refine okL_nil ?_
                      refine okX_next ?_
                      obtain ⟨z75, h77, hz76⟩ := bs h52
                      refine okC_meetE (X := ((Int × (List Int)) × Value)) (fun x => z75 = x.1) (fun x : ((Int × (List Int)) × Value) => [(4, (pAt g2 0)), (9, (pAt g16 0))]) (fun x : ((Int × (List Int)) × Value) => Item.blk g3 103 [(tI x.1.1)] :: rowL x.2 3 1 lI x.1.2 :: Item.blk g19 113 [(tS r17.1.Name), (tI r17.1.Form), (tB r17.1.ReadsA), (tB r17.1.WritesA), (tB r17.1.ReadsB), (tB r17.1.MayTrap), (tI r17.1.Words)] :: Item.blk g16 48 [(tI s6.1), (tI s20.1), (tI s28.1), (tI s40.1), (tI r71.1), (Ty.own x.2)] :: Item.blk g2 48 [(tI 0), (tI 0), (tI 0), (tI 0), (tI 0), (Ty.val (.slice none 0 0))] :: Item.blk g1 27 [(tI a1.Params), (tI a1.Regs), Ty.any] :: L) ?_ ?_
                      · refine okC_block ?_
                        refine okC_loop (X := ((Int × Int × (List Int)) × Value)) (fun k x => keep2_VInstr_l1 K a1 k x.1 = some z75) (fun x : ((Int × Int × (List Int)) × Value) => [(3, (pAt g1 0)), (4, (pAt g2 0)), (5, (pAt g3 0)), (9, (pAt g16 0)), (13, (tI x.1.1))]) (fun x : ((Int × Int × (List Int)) × Value) => Item.blk g3 103 [(tI x.1.2.1)] :: rowL x.2 3 1 lI x.1.2.2 :: Item.blk g19 113 [(tS r17.1.Name), (tI r17.1.Form), (tB r17.1.ReadsA), (tB r17.1.WritesA), (tB r17.1.ReadsB), (tB r17.1.MayTrap), (tI r17.1.Words)] :: Item.blk g16 48 [(tI s6.1), (tI s20.1), (tI s28.1), (tI s40.1), (tI r71.1), (Ty.own x.2)] :: Item.blk g2 48 [(tI 0), (tI 0), (tI 0), (tI 0), (tI 0), (Ty.val (.slice none 0 0))] :: Item.blk g1 27 [(tI a1.Params), (tI a1.Regs), Ty.any] :: L) K (((w64 (2 - r71.1)), r71.2.N, ([] : List Int)), (.slice none 0 0)) h77 (cc rfl (cc rfl (cc rfl (cc rfl (cc rfl cn))))) rfl (fun k x hI => ?_)
                        obtain ⟨s78, w79⟩ := x
                        change OkC _ _ _ [(3, (pAt g1 0)), (4, (pAt g2 0)), (5, (pAt g3 0)), (9, (pAt g16 0)), (13, (tI s78.1))] (Item.blk g3 103 [(tI s78.2.1)] :: rowL w79 3 1 lI s78.2.2 :: Item.blk g19 113 [(tS r17.1.Name), (tI r17.1.Form), (tB r17.1.ReadsA), (tB r17.1.WritesA), (tB r17.1.ReadsB), (tB r17.1.MayTrap), (tI r17.1.Words)] :: Item.blk g16 48 [(tI s6.1), (tI s20.1), (tI s28.1), (tI s40.1), (tI r71.1), (Ty.own w79)] :: Item.blk g2 48 [(tI 0), (tI 0), (tI 0), (tI 0), (tI 0), (Ty.val (.slice none 0 0))] :: Item.blk g1 27 [(tI a1.Params), (tI a1.Regs), Ty.any] :: L)
                        cases k with
                        | zero => exact (nz hI).elim
                        | succ k =>
                          have h : keep2_VInstr_l1 K a1 (k + 1) s78 = some z75 := hI
                          rw [keep2_VInstr_l1.eq_2] at h
                          refine okC_seq ?_
                          refine okC_seq ?_
                          refine okC_region ?_
                          refine okL_step 106 (tI s78.1) rfl rfl (does_move rfl) ?_
                          refine okL_step 107 (tB (decide (s78.1 > 0))) rfl rfl (does_gtr rfl rfl) ?_
                          refine okL_nil ?_
                          refine okX_next ?_
                          refine okC_cond (b := (decide (s78.1 > 0))) rfl (fun hb80 => ?_) (fun hb80 => ?_)
                          · replace h := ct hb80 h
                            refine okC_skip ?_
                            refine okX_next ?_
                            refine okC_seq ?_
                            refine okC_block ?_
                            refine okC_cov [(3, (pAt g1 0)), (4, (pAt g2 0)), (5, (pAt g3 0)), (9, (pAt g16 0)), (13, (tI s78.1))] (cc rfl (cc rfl (cc rfl (cc rfl (cc rfl cn))))) ?_
                            obtain ⟨r81, hc82, h⟩ := bs h
                            refine okC_draw 7 [some (110, (pAt g16 5)), some (111, (Ty.own w79)), some (112, (pAt g3 0)), some (113, (pAt g1 1)), some (114, (tI a1.Regs)), none, none] ⟨rowL w79 3 1 lI s78.2.2 :: Item.blk g19 113 [(tS r17.1.Name), (tI r17.1.Form), (tB r17.1.ReadsA), (tB r17.1.WritesA), (tB r17.1.ReadsB), (tB r17.1.MayTrap), (tI r17.1.Words)] :: Item.blk g16 48 [(tI s6.1), (tI s20.1), (tI s28.1), (tI s40.1), (tI r71.1), (Ty.own w79)] :: Item.blk g2 48 [(tI 0), (tI 0), (tI 0), (tI 0), (tI 0), (Ty.val (.slice none 0 0))] :: Item.blk g1 27 [(tI a1.Params), (tI a1.Regs), Ty.any] :: ([] : List Item), Item.blk g3 103 [(tI s78.2.1)] :: rowL w79 3 1 lI s78.2.2 :: Item.blk g19 113 [(tS r17.1.Name), (tI r17.1.Form), (tB r17.1.ReadsA), (tB r17.1.WritesA), (tB r17.1.ReadsB), (tB r17.1.MayTrap), (tI r17.1.Words)] :: Item.blk g16 48 [(tI s6.1), (tI s20.1), (tI s28.1), (tI s40.1), (tI r71.1), (Ty.own w79)] :: Item.blk g2 48 [(tI 0), (tI 0), (tI 0), (tI 0), (tI 0), (Ty.val (.slice none 0 0))] :: Item.blk g1 27 [(tI a1.Params), (tI a1.Regs), Ty.any] :: ([] : List Item), [5]⟩ [5, 6] mixed rfl rfl (by kernel_rfl) rfl (by kernel_rfl) rfl rfl rfl (fun _ h => List.Sublist.subset (.cons _ (.cons_cons _ (.cons_cons _ (.cons_cons _ (.cons_cons _ (.cons_cons _ (List.nil_sublist _))))))) h) (fun _ h => List.Sublist.subset (.cons_cons _ (.cons_cons _ (.cons_cons _ (.cons_cons _ (.cons_cons _ (.cons_cons _ (List.nil_sublist _))))))) h) rfl (by kernel_rfl) (.inr ⟨by kernel_rfl, by kernel_rfl⟩) (by kernel_rfl) (by kernel_rfl) (dc (draw_plain rfl (does_fieldAddrP 5 Tryd.underlying48 rfl Tryd.sizeOf31 rfl rfl)) (dc (draw_plain rfl (does_loadB1 Tryd.isAgg31 rfl 2 rfl rfl)) (dc (draw_plain rfl (does_move rfl)) (dc (draw_plain rfl (does_fieldAddrP 1 Tryd.underlying27 rfl Tryd.sizeOf3 rfl rfl)) (dc (draw_plain rfl (does_loadB1 Tryd.isAgg3 rfl 4 rfl rfl)) (ds (ds (dn)))))))) ?_
                            refine ch_step [5] rfl (ap_cons (ch_at _ rfl rfl (doesO_call0 (rowL w79 3 1 lI s78.2.2 :: Item.blk g19 113 [(tS r17.1.Name), (tI r17.1.Form), (tB r17.1.ReadsA), (tB r17.1.WritesA), (tB r17.1.ReadsB), (tB r17.1.MayTrap), (tI r17.1.Words)] :: Item.blk g16 48 [(tI s6.1), (tI s20.1), (tI s28.1), (tI s40.1), (tI r71.1), (Ty.own w79)] :: Item.blk g2 48 [(tI 0), (tI 0), (tI 0), (tI 0), (tI 0), (Ty.val (.slice none 0 0))] :: Item.blk g1 27 [(tI a1.Params), (tI a1.Regs), Ty.any] :: L) (c_keep2_Digits_Next (⟨s78.2.1⟩ : Fullingkeep2Digits) a1.Regs g3 r81 hc82) rfl Tryd.call74 rfl (pm 0 rfl (pr _)) (fun _ => ?_))) (ap_nil))
                            refine ⟨⟨(fun _ h => List.Sublist.subset (.cons _ (.cons_cons _ (.cons_cons _ (.cons_cons _ (.cons_cons _ (.cons_cons _ (List.nil_sublist _))))))) h), .inl rfl⟩, ?_⟩
                            refine ch_step [6] rfl (ap_cons (ch_at _ rfl rfl (doesO_of (does_buildSlice (f := lI) ([r81.1] : List Int) [(tI r81.1)] el31 rfl rfl rfl (fc [(tI r81.1)] 0 rfl (part_one (one_i _)) rfl rfl (fn_ rfl)) rfl (fun _ => rfl)) ?_)) (ap_nil))
                            refine ⟨⟨(fun _ h => List.Sublist.subset (.cons _ (.cons_cons _ (.cons_cons _ (.cons_cons _ (.cons_cons _ (.cons_cons _ (List.nil_sublist _))))))) h), .inl rfl⟩, ?_⟩
                            refine ch_end ?_
                            change OkL _ _ _ _ [(110, (pAt g16 5)), (111, (Ty.own w79)), (112, (pAt g3 0)), (113, (pAt g1 1)), (114, (tI a1.Regs)), (116, (tL 1 lI ([r81.1] : List Int))), (115, (tI r81.1)), (3, (pAt g1 0)), (4, (pAt g2 0)), (5, (pAt g3 0)), (9, (pAt g16 0)), (13, (tI s78.1))] (Item.blk g3 103 [(tI r81.2.N)] :: rowL w79 3 1 lI s78.2.2 :: Item.blk g19 113 [(tS r17.1.Name), (tI r17.1.Form), (tB r17.1.ReadsA), (tB r17.1.WritesA), (tB r17.1.ReadsB), (tB r17.1.MayTrap), (tI r17.1.Words)] :: Item.blk g16 48 [(tI s6.1), (tI s20.1), (tI s28.1), (tI s40.1), (tI r71.1), (Ty.own w79)] :: Item.blk g2 48 [(tI 0), (tI 0), (tI 0), (tI 0), (tI 0), (Ty.val (.slice none 0 0))] :: Item.blk g1 27 [(tI a1.Params), (tI a1.Regs), Ty.any] :: L)
                            obtain ⟨l83, ha84, h⟩ := bs h
                            refine okL_stepO 117 rfl rfl (doesO_append (f := lI) (l := s78.2.2) (m := ([r81.1] : List Int)) el31 1 l83 (fun v85 => Item.blk g3 103 [(tI r81.2.N)] :: rowL v85 3 1 lI l83 :: Item.blk g19 113 [(tS r17.1.Name), (tI r17.1.Form), (tB r17.1.ReadsA), (tB r17.1.WritesA), (tB r17.1.ReadsB), (tB r17.1.MayTrap), (tI r17.1.Words)] :: Item.blk g16 48 [(tI s6.1), (tI s20.1), (tI s28.1), (tI s40.1), (tI r71.1), (Ty.own w79)] :: Item.blk g2 48 [(tI 0), (tI 0), (tI 0), (tI 0), (tI 0), (Ty.val (.slice none 0 0))] :: Item.blk g1 27 [(tI a1.Params), (tI a1.Regs), Ty.any] :: L) ha84 rfl rfl rfl (fun _ => rfl) (fun v85 => ?_))
                            refine okL_step 118 (pAt g16 5) rfl rfl (does_fieldAddrP 5 Tryd.underlying48 rfl Tryd.sizeOf31 rfl rfl) ?_
                            refine okL_stepU rfl (doesO_storeB (ps := [(Ty.own v85)]) 3 [(tI s6.1), (tI s20.1), (tI s28.1), (tI s40.1), (tI r71.1), (Ty.own v85)] (Item.blk g3 103 [(tI r81.2.N)] :: rowL v85 3 1 lI l83 :: Item.blk g19 113 [(tS r17.1.Name), (tI r17.1.Form), (tB r17.1.ReadsA), (tB r17.1.WritesA), (tB r17.1.ReadsB), (tB r17.1.MayTrap), (tI r17.1.Words)] :: Item.blk g16 48 [(tI s6.1), (tI s20.1), (tI s28.1), (tI s40.1), (tI r71.1), (Ty.own v85)] :: Item.blk g2 48 [(tI 0), (tI 0), (tI 0), (tI 0), (tI 0), (Ty.val (.slice none 0 0))] :: Item.blk g1 27 [(tI a1.Params), (tI a1.Regs), Ty.any] :: L) rfl rfl (part_one (one_own _)) Tryd.sizeOf31 rfl rfl rfl rfl ?_)
                            refine okL_nil ?_
                            refine okX_block_normal ?_
                            refine okX_next ?_
                            refine okC_region ?_
                            refine okL_step 108 (tI s78.1) rfl rfl (does_move rfl) ?_
                            refine okL_step 109 (tI (w64 (s78.1 - 1))) rfl rfl (does_sub rfl rfl) ?_
                            refine okL_step 13 (tI (w64 (s78.1 - 1))) rfl rfl (does_assign rfl) ?_
                            refine okL_nil ?_
                            exact okX_again k (Nat.lt_succ_self k) (((w64 (s78.1 - 1)), r81.2.N, l83), v85) h (cc rfl (cc rfl (cc rfl (cc rfl (cc rfl cn))))) rfl
                          · replace h := cf hb80 h
                            refine okC_exit ?_
                            refine okX_then_exit ?_
                            refine okX_again_exit ?_
                            refine okX_block_hit ?_
                            exact okX_meet (I := _) ((s78.2.1, s78.2.2), w79) (smh h) (cc rfl (cc rfl cn)) rfl
                      · intro x hx
                        obtain ⟨s73, w74⟩ := x
                        change OkX _ _ _ [(4, (pAt g2 0)), (9, (pAt g16 0))] (Item.blk g3 103 [(tI s73.1)] :: rowL w74 3 1 lI s73.2 :: Item.blk g19 113 [(tS r17.1.Name), (tI r17.1.Form), (tB r17.1.ReadsA), (tB r17.1.WritesA), (tB r17.1.ReadsB), (tB r17.1.MayTrap), (tI r17.1.Words)] :: Item.blk g16 48 [(tI s6.1), (tI s20.1), (tI s28.1), (tI s40.1), (tI r71.1), (Ty.own w74)] :: Item.blk g2 48 [(tI 0), (tI 0), (tI 0), (tI 0), (tI 0), (Ty.val (.slice none 0 0))] :: Item.blk g1 27 [(tI a1.Params), (tI a1.Regs), Ty.any] :: L)
                        obtain rfl : s73 = z75 := hx.symm
                        replace h52 := hz76
                        refine okX_block_normal ?_
                        refine okX_items [] (rowL w74 3 1 lI s73.2 :: Item.blk g19 113 [(tS r17.1.Name), (tI r17.1.Form), (tB r17.1.ReadsA), (tB r17.1.WritesA), (tB r17.1.ReadsB), (tB r17.1.MayTrap), (tI r17.1.Words)] :: Item.blk g16 48 [(tI s6.1), (tI s20.1), (tI s28.1), (tI s40.1), (tI r71.1), (Ty.own w74)] :: Item.blk g3 103 [(tI s73.1)] :: Item.blk g2 48 [(tI 0), (tI 0), (tI 0), (tI 0), (tI 0), (Ty.val (.slice none 0 0))] :: Item.blk g1 27 [(tI a1.Params), (tI a1.Regs), Ty.any] :: L) (pm 1 rfl (pm 1 rfl (pm 1 rfl (pm 0 rfl (pm 0 rfl (pm 0 rfl (pr _))))))) ?_
                        exact okX_meet (I := _) ((s73.2, r71.1, s73.1), w74) (smh h52) (cc rfl (cc rfl cn)) rfl
                    · replace h52 := cf hb70 h52
                      refine okC_skip ?_
                      refine okX_block_normal ?_
                      exact okX_meet (I := _) ((([] : List Int), 0, s40.2), (.slice none 0 0)) (smh h52) (cc rfl (cc rfl cn)) rfl
          · intro x hx
            obtain ⟨s48, w49⟩ := x
            change OkC _ _ _ [(4, (pAt g2 0)), (9, (pAt g16 0))] (rowL w49 3 1 lI s48.1 :: Item.blk g19 113 [(tS r17.1.Name), (tI r17.1.Form), (tB r17.1.ReadsA), (tB r17.1.WritesA), (tB r17.1.ReadsB), (tB r17.1.MayTrap), (tI r17.1.Words)] :: Item.blk g16 48 [(tI s6.1), (tI s20.1), (tI s28.1), (tI s40.1), (tI s48.2.1), (Ty.own w49)] :: Item.blk g3 103 [(tI s48.2.2)] :: Item.blk g2 48 [(tI 0), (tI 0), (tI 0), (tI 0), (tI 0), (Ty.val (.slice none 0 0))] :: Item.blk g1 27 [(tI a1.Params), (tI a1.Regs), Ty.any] :: L)
            obtain rfl : s48 = z50 := hx.symm
            replace h := hz51
            refine okC_seq ?_
            refine okC_region ?_
            refine okL_publishB 5 [] [(tI s6.1), (tI s20.1), (tI s28.1), (tI s40.1), (tI s48.2.1), (tL 1 lI s48.1)] (pm 0 rfl (pm 1 rfl (pr _))) rfl an rfl ?_
            refine okL_step 119 (Ty.agg [(tI s6.1), (tI s20.1), (tI s28.1), (tI s40.1), (tI s48.2.1), (tL 1 lI s48.1)]) rfl rfl (does_loadBA [(tI s6.1), (tI s20.1), (tI s28.1), (tI s40.1), (tI s48.2.1), (tL 1 lI s48.1)] Tryd.isAgg48 Tryd.sizeOf48 rfl 0 rfl rfl rfl) ?_
            refine okL_stepU rfl (doesO_storeB (ps := [(tI s6.1), (tI s20.1), (tI s28.1), (tI s40.1), (tI s48.2.1), (tL 1 lI s48.1)]) 3 [(tI s6.1), (tI s20.1), (tI s28.1), (tI s40.1), (tI s48.2.1), (tL 1 lI s48.1)] (Item.blk g16 48 [(tI s6.1), (tI s20.1), (tI s28.1), (tI s40.1), (tI s48.2.1), (tL 1 lI s48.1)] :: Item.blk g19 113 [(tS r17.1.Name), (tI r17.1.Form), (tB r17.1.ReadsA), (tB r17.1.WritesA), (tB r17.1.ReadsB), (tB r17.1.MayTrap), (tI r17.1.Words)] :: Item.blk g3 103 [(tI s48.2.2)] :: Item.blk g2 48 [(tI s6.1), (tI s20.1), (tI s28.1), (tI s40.1), (tI s48.2.1), (tL 1 lI s48.1)] :: Item.blk g1 27 [(tI a1.Params), (tI a1.Regs), Ty.any] :: L) rfl rfl (part_agg _) Tryd.sizeOf48 rfl rfl rfl rfl ?_)
            refine okL_nil ?_
            refine okX_next ?_
            refine okC_ret ?_
            obtain rfl := (smh h).symm
            exact okX_retC () Tryd.results57 rfl 3 rfl Tryd.isAgg48 Tryd.sizeOf48 rfl rfl [Item.blk g16 48 [(tI s6.1), (tI s20.1), (tI s28.1), (tI s40.1), (tI s48.2.1), (tL 1 lI s48.1)], Item.blk g19 113 [(tS r17.1.Name), (tI r17.1.Form), (tB r17.1.ReadsA), (tB r17.1.WritesA), (tB r17.1.ReadsB), (tB r17.1.MayTrap), (tI r17.1.Words)], Item.blk g3 103 [(tI s48.2.2)], Item.blk g2 48 [(tI s6.1), (tI s20.1), (tI s28.1), (tI s40.1), (tI s48.2.1), (tL 1 lI s48.1)], Item.blk g1 27 [(tI a1.Params), (tI a1.Regs), Ty.any]] (pm 0 rfl (pm 0 rfl (pm 0 rfl (pm 0 rfl (pm 0 rfl (pr _))))))

def ref32_LiveBlocks_l3 (K : Nat) (s24 : (Bool × Int × (List (List Int)) × (List (List Int)))) (r29 : (List Int)) : Nat → ((List Int) × Int) → Option (List Int)
  | 0, _ => none
  | k + 1, s36 => (cnd (decide (s36.2 < ((r29).length : Int))) (Option.bind (idx r29 s36.2) (fun y39 => (Option.bind (idx s24.2.2.2 y39) (fun y41 => (Option.bind (ref32_Union K s36.1 y41) (fun r43 => (ref32_LiveBlocks_l3 K s24 r29 k (r43, (w64 (s36.2 + 1)))))))))) (some s36.1))

def ref32_LiveBlocks_l2 (K : Nat) (a0 : VFunc) : Nat → (Bool × Int × (List (List Int)) × (List (List Int))) → Option (Bool × (List (List Int)) × (List (List Int)))
  | 0, _ => none
  | k + 1, s24 => (cnd (decide (s24.2.1 ≥ 0)) (Option.bind (idx a0.Blocks s24.2.1) (fun y27 => (Option.bind (ref32_Successors K y27) (fun r29 => (Option.bind (ref32_LiveBlocks_l3 K s24 r29 K (([] : List Int), 0)) (fun s31 => (Option.bind (idx a0.Blocks s24.2.1) (fun y45 => (Option.bind (ref32_livePoints K y45 s31) (fun r47 => (Option.bind (idx r47 0) (fun y49 => (Option.bind (cnd s24.1 (some true) (Option.bind (idx s24.2.2.1 s24.2.1) (fun y56 => (some (((s31).length : Int) != ((y56).length : Int)))))) (fun x55 => (Option.bind (cnd x55 (some true) (Option.bind (idx s24.2.2.2 s24.2.1) (fun y63 => (some (((y49).length : Int) != ((y63).length : Int)))))) (fun x62 => (Option.bind (idx s24.2.2.2 s24.2.1) (fun y65 => (Option.bind (idx s24.2.2.1 s24.2.1) (fun y67 => (ref32_LiveBlocks_l2 K a0 k (x62, (w64 (s24.2.1 - 1)), (s24.2.2.1.set s24.2.1.toNat s31), (s24.2.2.2.set s24.2.1.toNat y49))))))))))))))))))))))) (some (s24.1, s24.2.2.1, s24.2.2.2)))

def ref32_LiveBlocks_l1 (K : Nat) (a0 : VFunc) : Nat → (Bool × (List (List Int)) × (List (List Int))) → Option ((List (List Int)) × (List (List Int)))
  | 0, _ => none
  | k + 1, s16 => (cnd s16.1 (Option.bind (ref32_LiveBlocks_l2 K a0 K (false, (w64 (((a0.Blocks).length : Int) - 1)), s16.2.1, s16.2.2)) (fun s19 => (ref32_LiveBlocks_l1 K a0 k (s19.1, s19.2.1, s19.2.2)))) (some (s16.2.1, s16.2.2)))

def ref32_LiveBlocks (K : Nat) (a0 : VFunc) : Option ((List (List Int)) × (List (List Int))) :=
  (Option.bind (ref32_Valid K a0) (fun r2 => (cnd (!r2) (some (([] : List (List Int)), ([] : List (List Int)))) (Option.bind (mk 24 ((a0.Blocks).length : Int) ([] : List Int)) (fun l5 => (Option.bind (mk 24 ((a0.Blocks).length : Int) ([] : List Int)) (fun l8 => (Option.bind (ref32_LiveBlocks_l1 K a0 K (true, l8, l5)) (fun s11 => (some (s11.2, s11.1)))))))))))

def keep2_VFunc_l1 (K : Nat) (a1 : Int) : Nat → (Int × Int) → Option Int
  | 0, _ => none
  | k + 1, s8 => (cnd (decide (s8.1 < a1)) (keep2_VFunc_l1 K a1 k ((w64 (s8.1 + 1)), (w64 (s8.2 + 1)))) (some s8.2))

def keep2_VFunc_l2 (K : Nat) (a1 : Int) (s3 : Int) : Nat → (Int × (List VInstr)) → Option (List VInstr)
  | 0, _ => none
  | k + 1, s17 => (cnd (decide (s17.1 < s3)) (Option.bind (cnd (decide (s17.1 < a1)) (some 38) (some 13)) (fun s21 => (Option.bind (app 64 s17.2 ([(⟨(⟨s21, s17.1, 0, 0, s17.1⟩ : Instr), []⟩ : VInstr)] : List VInstr)) (fun l27 => (keep2_VFunc_l2 K a1 s3 k ((w64 (s17.1 + 1)), l27)))))) (some s17.2))

def keep2_VFunc_l4 (K : Nat) (a0 : (List Int)) (a1 : Int) (s3 : Int) (s38 : (Int × (List Block))) : Nat → (Int × (List VInstr)) → Option (List VInstr)
  | 0, _ => none
  | k + 1, s47 => (cnd ((decide (s47.1 < 5)) && (decide ((w64 ((w64 (6 * s38.1)) + s47.1)) < ((a0).length : Int)))) (Option.bind (idx a0 (w64 ((w64 (6 * s38.1)) + s47.1))) (fun y51 => (Option.bind (keep2_VInstr K y51 (⟨a1, s3, []⟩ : VFunc)) (fun r53 => (Option.bind (app 64 s47.2 ([r53] : List VInstr)) (fun l55 => (keep2_VFunc_l4 K a0 a1 s3 s38 k ((w64 (s47.1 + 1)), l55)))))))) (some s47.2))

def keep2_VFunc_l3 (K : Nat) (a0 : (List Int)) (a1 : Int) (s3 : Int) : Nat → (Int × (List Block)) → Option (List Block)
  | 0, _ => none
  | k + 1, s38 => (cnd (decide (s38.1 < (w64 (1 + (if 5 < (w64 (Int.tdiv ((a0).length : Int) 6)) then 5 else (w64 (Int.tdiv ((a0).length : Int) 6))))))) (Option.bind (keep2_VFunc_l4 K a0 a1 s3 s38 K (0, ([] : List VInstr))) (fun s42 => (Option.bind (cnd (decide ((w64 ((w64 (6 * s38.1)) + 5)) < ((a0).length : Int))) (Option.bind (idx a0 (w64 ((w64 (6 * s38.1)) + 5))) (fun y65 => (some y65))) (some 0)) (fun s59 => (Option.bind (Option.bind (keep2_Digits_Next (⟨s59⟩ : Fullingkeep2Digits) 6) (fun r73 => (cnd (r73.1 == 0) (Option.bind (keep2_Digits_Next r73.2 (w64 (1 + (if 5 < (w64 (Int.tdiv ((a0).length : Int) 6)) then 5 else (w64 (Int.tdiv ((a0).length : Int) 6)))))) (fun r76 => (some (r76.2.N, 1, 0, (w64 (1 + r76.1)), 0)))) (cnd (r73.1 == 1) (Option.bind (keep2_Digits_Next r73.2 9) (fun r79 => (some (r79.2.N, 4, 0, (w64 (1 + r79.1)), 0)))) (cnd (r73.1 == 2) (Option.bind (keep2_Digits_Next r73.2 s3) (fun r82 => (some (r82.2.N, 3, r82.1, 0, 0)))) (Option.bind (keep2_Digits_Next r73.2 s3) (fun r84 => (Option.bind (keep2_Digits_Next r84.2 (w64 (1 + (if 5 < (w64 (Int.tdiv ((a0).length : Int) 6)) then 5 else (w64 (Int.tdiv ((a0).length : Int) 6)))))) (fun r86 => (Option.bind (keep2_Digits_Next r86.2 (w64 (1 + (if 5 < (w64 (Int.tdiv ((a0).length : Int) 6)) then 5 else (w64 (Int.tdiv ((a0).length : Int) 6)))))) (fun r88 => (some (r88.2.N, 2, r84.1, (w64 (1 + r86.1)), (w64 (1 + r88.1))))))))))))))) (fun s68 => (Option.bind (cnd ((s38.1 == (w64 ((w64 (1 + (if 5 < (w64 (Int.tdiv ((a0).length : Int) 6)) then 5 else (w64 (Int.tdiv ((a0).length : Int) 6))))) - 1))) && (s68.2.1 == 1)) (some (3, 0, 0)) (some (s68.2.1, s68.2.2.1, s68.2.2.2.1))) (fun s90 => (Option.bind (app 56 s38.2 ([(⟨s42, s90.1, s90.2.1, s90.2.2, s68.2.2.2.2⟩ : Block)] : List Block)) (fun l98 => (keep2_VFunc_l3 K a0 a1 s3 k ((w64 (s38.1 + 1)), l98)))))))))))) (some s38.2))

def keep2_VFunc (K : Nat) (a0 : (List Int)) (a1 : Int) : Option VFunc :=
  (Option.bind (keep2_VFunc_l1 K a1 K (0, 9)) (fun s3 => (Option.bind (keep2_VFunc_l2 K a1 s3 K (0, ([] : List VInstr))) (fun s12 => (Option.bind (app 56 [] ([(⟨s12, 1, 0, 1, 0⟩ : Block)] : List Block)) (fun l30 => (Option.bind (keep2_VFunc_l3 K a0 a1 s3 K (0, l30)) (fun s33 => (some (⟨a1, s3, s33⟩ : VFunc))))))))))

theorem c_keep2_VFunc (K : Nat) (a0 : (List Int)) (a1 : Int) (r : VFunc) (h : keep2_VFunc K a0 a1 = some r) : CallP Tryd.prog glob 28 [(tL 1 lI a0), (tI a1)] (Ty.agg [(tI r.Params), (tI r.Regs), (tL 5 Block.ty r.Blocks)]) := by
  refine call_of_code Tryd.func28 rfl Tryd.ntmps28 rfl (fun L w => ?_)
  change OkC _ _ _ [(0, (tL 1 lI a0)), (1, (tI a1))] (L)
  unfold keep2_VFunc at h
  refine okC_seq ?_
  refine okC_region ?_
  refine okL_stepO 4 rfl rfl (doesO_alloc [(tI 0), (tI 0), (Ty.val (.slice none 0 0))] Tryd.zeroValue27 (part_of (sub_agg [(.int .i64 0), (.int .i64 0), (.slice none 0 0)] rfl) (part_agg _)) (fun g1 => ?_))
  refine okL_nil ?_
  refine okX_next ?_
  refine okC_seq ?_
  refine okC_region ?_
  refine okL_step 16 (tI a1) rfl rfl (does_move rfl) ?_
  refine okL_step 17 (Ty.agg [(tI a1), (tI 9), (Ty.val (.slice none 0 0))]) rfl rfl (does_build [(tI a1), (tI 9), (Ty.val (.slice none 0 0))] Tryd.zeroValue27 Tryd.underlying27 (places27 _ Tryd.underlying27) rfl (fc [(tI a1)] 0 rfl (part_one (one_i _)) rfl rfl (fc [(tI 9)] 1 rfl (part_one (one_i _)) rfl rfl (fn_ rfl)))) ?_
  refine okL_stepO 5 rfl rfl (doesO_alloc [(tI 0), (tI 0), (Ty.val (.slice none 0 0))] Tryd.zeroValue27 (part_of (sub_agg [(.int .i64 0), (.int .i64 0), (.slice none 0 0)] rfl) (part_agg _)) (fun g2 => ?_))
  refine okL_stepU rfl (doesO_storeB (ps := [(tI a1), (tI 9), (Ty.val (.slice none 0 0))]) 0 [(tI a1), (tI 9), (Ty.val (.slice none 0 0))] (Item.blk g2 27 [(tI a1), (tI 9), (Ty.val (.slice none 0 0))] :: Item.blk g1 27 [(tI 0), (tI 0), (Ty.val (.slice none 0 0))] :: L) rfl rfl (part_agg _) Tryd.sizeOf27 rfl rfl rfl rfl ?_)
  refine okL_nil ?_
  refine okX_next ?_
  refine okC_seq ?_
  refine okC_region ?_
  refine okL_step 18 (tL 1 lI a0) rfl rfl (does_move rfl) ?_
  refine okL_step 19 (tI ((a0).length : Int)) rfl rfl (does_len (sz := 1) (f := lI) (l := a0) rfl Tryd.underlying31 rfl) ?_
  refine okL_step 20 (tI (w64 (Int.tdiv ((a0).length : Int) 6))) rfl rfl (does_quo (by decide) rfl rfl) ?_
  refine okL_step 21 (tI (if 5 < (w64 (Int.tdiv ((a0).length : Int) 6)) then 5 else (w64 (Int.tdiv ((a0).length : Int) 6)))) rfl rfl (does_min rfl rfl) ?_
  refine okL_step 22 (tI (w64 (1 + (if 5 < (w64 (Int.tdiv ((a0).length : Int) 6)) then 5 else (w64 (Int.tdiv ((a0).length : Int) 6)))))) rfl rfl (does_add rfl rfl) ?_
  refine okL_step 6 (tI (w64 (1 + (if 5 < (w64 (Int.tdiv ((a0).length : Int) 6)) then 5 else (w64 (Int.tdiv ((a0).length : Int) 6)))))) rfl rfl (does_assign rfl) ?_
  refine okL_nil ?_
  refine okX_next ?_
  refine okC_seq ?_
  refine okC_seq ?_
  refine okC_region ?_
  refine okL_step 7 (tI 0) rfl rfl (does_assign rfl) ?_
  refine okL_nil ?_
  refine okX_next ?_
  obtain ⟨z5, h7, hz6⟩ := bs h
  refine okC_meetE (X := Int) (fun x => z5 = x) (fun x : Int => [(0, (tL 1 lI a0)), (1, (tI a1)), (4, (pAt g1 0)), (5, (pAt g2 0)), (6, (tI (w64 (1 + (if 5 < (w64 (Int.tdiv ((a0).length : Int) 6)) then 5 else (w64 (Int.tdiv ((a0).length : Int) 6)))))))]) (fun x : Int => Item.blk g2 27 [(tI a1), (tI x), (Ty.val (.slice none 0 0))] :: Item.blk g1 27 [(tI 0), (tI 0), (Ty.val (.slice none 0 0))] :: L) ?_ ?_
  · refine okC_block ?_
    refine okC_loop (X := (Int × Int)) (fun k x => keep2_VFunc_l1 K a1 k x = some z5) (fun x : (Int × Int) => [(0, (tL 1 lI a0)), (1, (tI a1)), (4, (pAt g1 0)), (5, (pAt g2 0)), (6, (tI (w64 (1 + (if 5 < (w64 (Int.tdiv ((a0).length : Int) 6)) then 5 else (w64 (Int.tdiv ((a0).length : Int) 6))))))), (7, (tI x.1))]) (fun x : (Int × Int) => Item.blk g2 27 [(tI a1), (tI x.2), (Ty.val (.slice none 0 0))] :: Item.blk g1 27 [(tI 0), (tI 0), (Ty.val (.slice none 0 0))] :: L) K (0, 9) h7 (cc rfl (cc rfl (cc rfl (cc rfl (cc rfl (cc rfl cn)))))) rfl (fun k s8 hI => ?_)
    change OkC _ _ _ [(0, (tL 1 lI a0)), (1, (tI a1)), (4, (pAt g1 0)), (5, (pAt g2 0)), (6, (tI (w64 (1 + (if 5 < (w64 (Int.tdiv ((a0).length : Int) 6)) then 5 else (w64 (Int.tdiv ((a0).length : Int) 6))))))), (7, (tI s8.1))] (Item.blk g2 27 [(tI a1), (tI s8.2), (Ty.val (.slice none 0 0))] :: Item.blk g1 27 [(tI 0), (tI 0), (Ty.val (.slice none 0 0))] :: L)
    cases k with
    | zero => exact (nz hI).elim
    | succ k =>
      have h : keep2_VFunc_l1 K a1 (k + 1) s8 = some z5 := hI
      rw [keep2_VFunc_l1.eq_2] at h
      refine okC_seq ?_
      refine okC_seq ?_
      refine okC_region ?_
      refine okL_step 23 (tI s8.1) rfl rfl (does_move rfl) ?_
      refine okL_step 24 (tI a1) rfl rfl (does_move rfl) ?_
      refine okL_step 25 (tB (decide (s8.1 < a1))) rfl rfl (does_lss rfl rfl) ?_
      refine okL_nil ?_
      refine okX_next ?_
      refine okC_cond (b := (decide (s8.1 < a1))) rfl (fun hb10 => ?_) (fun hb10 => ?_)
      · replace h := ct hb10 h
        refine okC_skip ?_
        refine okX_next ?_
        refine okC_seq ?_
        refine okC_block ?_
        refine okC_region ?_
        refine okL_step 28 (pAt g2 1) rfl rfl (does_fieldAddrP 1 Tryd.underlying27 rfl Tryd.sizeOf3 rfl rfl) ?_
        refine okL_step 29 (tI s8.2) rfl rfl (does_loadB1 Tryd.isAgg3 rfl 0 rfl rfl) ?_
        refine okL_step 30 (tI (w64 (s8.2 + 1))) rfl rfl (does_add rfl rfl) ?_
        refine okL_step 31 (pAt g2 1) rfl rfl (does_fieldAddrP 1 Tryd.underlying27 rfl Tryd.sizeOf3 rfl rfl) ?_
        refine okL_stepU rfl (doesO_storeB (ps := [(tI (w64 (s8.2 + 1)))]) 0 [(tI a1), (tI (w64 (s8.2 + 1))), (Ty.val (.slice none 0 0))] (Item.blk g2 27 [(tI a1), (tI (w64 (s8.2 + 1))), (Ty.val (.slice none 0 0))] :: Item.blk g1 27 [(tI 0), (tI 0), (Ty.val (.slice none 0 0))] :: L) rfl rfl (part_one (one_i _)) Tryd.sizeOf3 rfl rfl rfl rfl ?_)
        refine okL_nil ?_
        refine okX_block_normal ?_
        refine okX_next ?_
        refine okC_region ?_
        refine okL_step 26 (tI s8.1) rfl rfl (does_move rfl) ?_
        refine okL_step 27 (tI (w64 (s8.1 + 1))) rfl rfl (does_add rfl rfl) ?_
        refine okL_step 7 (tI (w64 (s8.1 + 1))) rfl rfl (does_assign rfl) ?_
        refine okL_nil ?_
        exact okX_again k (Nat.lt_succ_self k) ((w64 (s8.1 + 1)), (w64 (s8.2 + 1))) h (cc rfl (cc rfl (cc rfl (cc rfl (cc rfl (cc rfl cn)))))) rfl
      · replace h := cf hb10 h
        refine okC_exit ?_
        refine okX_then_exit ?_
        refine okX_again_exit ?_
        refine okX_block_hit ?_
        exact okX_meet (I := _) s8.2 (smh h) (cc rfl (cc rfl (cc rfl (cc rfl (cc rfl cn))))) rfl
  · intro s3 hx
    change OkX _ _ _ [(0, (tL 1 lI a0)), (1, (tI a1)), (4, (pAt g1 0)), (5, (pAt g2 0)), (6, (tI (w64 (1 + (if 5 < (w64 (Int.tdiv ((a0).length : Int) 6)) then 5 else (w64 (Int.tdiv ((a0).length : Int) 6)))))))] (Item.blk g2 27 [(tI a1), (tI s3), (Ty.val (.slice none 0 0))] :: Item.blk g1 27 [(tI 0), (tI 0), (Ty.val (.slice none 0 0))] :: L)
    obtain rfl : s3 = z5 := hx.symm
    replace h := hz6
    refine okX_next ?_
    refine okC_seq ?_
    refine okC_region ?_
    refine okL_stepO 8 rfl rfl (doesO_alloc [(Ty.val (.slice none 0 0)), (tI 0), (tI 0), (tI 0), (tI 0)] Tryd.zeroValue43 (part_of (sub_agg [(.slice none 0 0), (.int .i64 0), (.int .i64 0), (.int .i64 0), (.int .i64 0)] rfl) (part_agg _)) (fun g11 => ?_))
    refine okL_nil ?_
    refine okX_next ?_
    refine okC_seq ?_
    refine okC_seq ?_
    refine okC_region ?_
    refine okL_step 9 (tI 0) rfl rfl (does_assign rfl) ?_
    refine okL_nil ?_
    refine okX_next ?_
    refine okC_nilrowB (sz := 6) VInstr.ty 48 0 0 [(Ty.own (.slice none 0 0)), (tI 0), (tI 0), (tI 0), (tI 0)] (rowL (.slice none 0 0) 48 6 VInstr.ty ([] : List VInstr) :: Item.blk g11 43 [(Ty.own (.slice none 0 0)), (tI 0), (tI 0), (tI 0), (tI 0)] :: Item.blk g2 27 [(tI a1), (tI s3), (Ty.val (.slice none 0 0))] :: Item.blk g1 27 [(tI 0), (tI 0), (Ty.val (.slice none 0 0))] :: L) rfl rfl rfl rfl ?_
    obtain ⟨z14, h16, hz15⟩ := bs h
    refine okC_meetE (X := ((List VInstr) × Value)) (fun x => z14 = x.1) (fun x : ((List VInstr) × Value) => [(0, (tL 1 lI a0)), (4, (pAt g1 0)), (5, (pAt g2 0)), (6, (tI (w64 (1 + (if 5 < (w64 (Int.tdiv ((a0).length : Int) 6)) then 5 else (w64 (Int.tdiv ((a0).length : Int) 6))))))), (8, (pAt g11 0))]) (fun x : ((List VInstr) × Value) => rowL x.2 48 6 VInstr.ty x.1 :: Item.blk g11 43 [(Ty.own x.2), (tI 0), (tI 0), (tI 0), (tI 0)] :: Item.blk g2 27 [(tI a1), (tI s3), (Ty.val (.slice none 0 0))] :: Item.blk g1 27 [(tI 0), (tI 0), (Ty.val (.slice none 0 0))] :: L) ?_ ?_
    · refine okC_block ?_
      refine okC_loop (X := ((Int × (List VInstr)) × Value)) (fun k x => keep2_VFunc_l2 K a1 s3 k x.1 = some z14) (fun x : ((Int × (List VInstr)) × Value) => [(0, (tL 1 lI a0)), (1, (tI a1)), (4, (pAt g1 0)), (5, (pAt g2 0)), (6, (tI (w64 (1 + (if 5 < (w64 (Int.tdiv ((a0).length : Int) 6)) then 5 else (w64 (Int.tdiv ((a0).length : Int) 6))))))), (8, (pAt g11 0)), (9, (tI x.1.1))]) (fun x : ((Int × (List VInstr)) × Value) => rowL x.2 48 6 VInstr.ty x.1.2 :: Item.blk g11 43 [(Ty.own x.2), (tI 0), (tI 0), (tI 0), (tI 0)] :: Item.blk g2 27 [(tI a1), (tI s3), (Ty.val (.slice none 0 0))] :: Item.blk g1 27 [(tI 0), (tI 0), (Ty.val (.slice none 0 0))] :: L) K ((0, ([] : List VInstr)), (.slice none 0 0)) h16 (cc rfl (cc rfl (cc rfl (cc rfl (cc rfl (cc rfl (cc rfl cn))))))) rfl (fun k x hI => ?_)
      obtain ⟨s17, w18⟩ := x
      change OkC _ _ _ [(0, (tL 1 lI a0)), (1, (tI a1)), (4, (pAt g1 0)), (5, (pAt g2 0)), (6, (tI (w64 (1 + (if 5 < (w64 (Int.tdiv ((a0).length : Int) 6)) then 5 else (w64 (Int.tdiv ((a0).length : Int) 6))))))), (8, (pAt g11 0)), (9, (tI s17.1))] (rowL w18 48 6 VInstr.ty s17.2 :: Item.blk g11 43 [(Ty.own w18), (tI 0), (tI 0), (tI 0), (tI 0)] :: Item.blk g2 27 [(tI a1), (tI s3), (Ty.val (.slice none 0 0))] :: Item.blk g1 27 [(tI 0), (tI 0), (Ty.val (.slice none 0 0))] :: L)
      cases k with
      | zero => exact (nz hI).elim
      | succ k =>
        have h : keep2_VFunc_l2 K a1 s3 (k + 1) s17 = some z14 := hI
        rw [keep2_VFunc_l2.eq_2] at h
        refine okC_seq ?_
        refine okC_seq ?_
        refine okC_region ?_
        refine okL_step 32 (tI s17.1) rfl rfl (does_move rfl) ?_
        refine okL_step 33 (pAt g2 1) rfl rfl (does_fieldAddrP 1 Tryd.underlying27 rfl Tryd.sizeOf3 rfl rfl) ?_
        refine okL_step 34 (tI s3) rfl rfl (does_loadB1 Tryd.isAgg3 rfl 2 rfl rfl) ?_
        refine okL_step 35 (tB (decide (s17.1 < s3))) rfl rfl (does_lss rfl rfl) ?_
        refine okL_nil ?_
        refine okX_next ?_
        refine okC_cond (b := (decide (s17.1 < s3))) rfl (fun hb19 => ?_) (fun hb19 => ?_)
        · replace h := ct hb19 h
          refine okC_skip ?_
          refine okX_next ?_
          refine okC_seq ?_
          refine okC_block ?_
          refine okC_seq ?_
          refine okC_region ?_
          refine okL_step 38 (tI s17.1) rfl rfl (does_move rfl) ?_
          refine okL_step 39 (tI s17.1) rfl rfl (does_move rfl) ?_
          refine okL_step 40 (Ty.agg [(tI 13), (tI s17.1), (tI 0), (tI 0), (tI s17.1)]) rfl rfl (does_build [(tI 13), (tI s17.1), (tI 0), (tI 0), (tI s17.1)] Tryd.zeroValue46 Tryd.underlying46 (places46 _ Tryd.underlying46) rfl (fc [(tI 13)] 0 rfl (part_one (one_i _)) rfl rfl (fc [(tI s17.1)] 1 rfl (part_one (one_i _)) rfl rfl (fc [(tI s17.1)] 4 rfl (part_one (one_i _)) rfl rfl (fn_ rfl))))) ?_
          refine okL_stepO 10 rfl rfl (doesO_alloc [(tI 0), (tI 0), (tI 0), (tI 0), (tI 0)] Tryd.zeroValue46 (part_of (sub_agg [(.int .i64 0), (.int .i64 0), (.int .i64 0), (.int .i64 0), (.int .i64 0)] rfl) (part_agg _)) (fun g20 => ?_))
          refine okL_stepU rfl (doesO_storeB (ps := [(tI 13), (tI s17.1), (tI 0), (tI 0), (tI s17.1)]) 0 [(tI 13), (tI s17.1), (tI 0), (tI 0), (tI s17.1)] (Item.blk g20 46 [(tI 13), (tI s17.1), (tI 0), (tI 0), (tI s17.1)] :: rowL w18 48 6 VInstr.ty s17.2 :: Item.blk g11 43 [(Ty.own w18), (tI 0), (tI 0), (tI 0), (tI 0)] :: Item.blk g2 27 [(tI a1), (tI s3), (Ty.val (.slice none 0 0))] :: Item.blk g1 27 [(tI 0), (tI 0), (Ty.val (.slice none 0 0))] :: L) rfl rfl (part_agg _) Tryd.sizeOf46 rfl rfl rfl rfl ?_)
          refine okL_nil ?_
          refine okX_next ?_
          obtain ⟨z23, h25, hz24⟩ := bs h
          refine okC_meet (X := Int) (fun x => z23 = x) (fun x : Int => [(0, (tL 1 lI a0)), (1, (tI a1)), (4, (pAt g1 0)), (5, (pAt g2 0)), (6, (tI (w64 (1 + (if 5 < (w64 (Int.tdiv ((a0).length : Int) 6)) then 5 else (w64 (Int.tdiv ((a0).length : Int) 6))))))), (8, (pAt g11 0)), (9, (tI s17.1)), (10, (pAt g20 0))]) (fun x : Int => Item.blk g20 46 [(tI x), (tI s17.1), (tI 0), (tI 0), (tI s17.1)] :: rowL w18 48 6 VInstr.ty s17.2 :: Item.blk g11 43 [(Ty.own w18), (tI 0), (tI 0), (tI 0), (tI 0)] :: Item.blk g2 27 [(tI a1), (tI s3), (Ty.val (.slice none 0 0))] :: Item.blk g1 27 [(tI 0), (tI 0), (Ty.val (.slice none 0 0))] :: L) ?_ ?_
          · refine okC_seq ?_
            refine okC_region ?_
            refine okL_step 41 (tI s17.1) rfl rfl (does_move rfl) ?_
            refine okL_step 42 (tI a1) rfl rfl (does_move rfl) ?_
            refine okL_step 43 (tB (decide (s17.1 < a1))) rfl rfl (does_lss rfl rfl) ?_
            refine okL_nil ?_
            refine okX_next ?_
            refine okC_cond (b := (decide (s17.1 < a1))) rfl (fun hb26 => ?_) (fun hb26 => ?_)
            · replace h25 := ct hb26 h25
              refine okC_region ?_
              refine okL_step 44 (tI s17.1) rfl rfl (does_move rfl) ?_
              refine okL_step 45 (tI s17.1) rfl rfl (does_move rfl) ?_
              refine okL_step 46 (Ty.agg [(tI 38), (tI s17.1), (tI 0), (tI 0), (tI s17.1)]) rfl rfl (does_build [(tI 38), (tI s17.1), (tI 0), (tI 0), (tI s17.1)] Tryd.zeroValue46 Tryd.underlying46 (places46 _ Tryd.underlying46) rfl (fc [(tI 38)] 0 rfl (part_one (one_i _)) rfl rfl (fc [(tI s17.1)] 1 rfl (part_one (one_i _)) rfl rfl (fc [(tI s17.1)] 4 rfl (part_one (one_i _)) rfl rfl (fn_ rfl))))) ?_
              refine okL_stepU rfl (doesO_storeB (ps := [(tI 38), (tI s17.1), (tI 0), (tI 0), (tI s17.1)]) 0 [(tI 38), (tI s17.1), (tI 0), (tI 0), (tI s17.1)] (Item.blk g20 46 [(tI 38), (tI s17.1), (tI 0), (tI 0), (tI s17.1)] :: rowL w18 48 6 VInstr.ty s17.2 :: Item.blk g11 43 [(Ty.own w18), (tI 0), (tI 0), (tI 0), (tI 0)] :: Item.blk g2 27 [(tI a1), (tI s3), (Ty.val (.slice none 0 0))] :: Item.blk g1 27 [(tI 0), (tI 0), (Ty.val (.slice none 0 0))] :: L) rfl rfl (part_agg _) Tryd.sizeOf46 rfl rfl rfl rfl ?_)
              refine okL_nil ?_
              exact okX_meet (I := _) 38 (smh h25) (cc rfl (cc rfl (cc rfl (cc rfl (cc rfl (cc rfl (cc rfl (cc rfl cn)))))))) rfl
            · replace h25 := cf hb26 h25
              refine okC_skip ?_
              exact okX_meet (I := _) 13 (smh h25) (cc rfl (cc rfl (cc rfl (cc rfl (cc rfl (cc rfl (cc rfl (cc rfl cn)))))))) rfl
          · intro s21 hx
            change OkC _ _ _ [(0, (tL 1 lI a0)), (1, (tI a1)), (4, (pAt g1 0)), (5, (pAt g2 0)), (6, (tI (w64 (1 + (if 5 < (w64 (Int.tdiv ((a0).length : Int) 6)) then 5 else (w64 (Int.tdiv ((a0).length : Int) 6))))))), (8, (pAt g11 0)), (9, (tI s17.1)), (10, (pAt g20 0))] (Item.blk g20 46 [(tI s21), (tI s17.1), (tI 0), (tI 0), (tI s17.1)] :: rowL w18 48 6 VInstr.ty s17.2 :: Item.blk g11 43 [(Ty.own w18), (tI 0), (tI 0), (tI 0), (tI 0)] :: Item.blk g2 27 [(tI a1), (tI s3), (Ty.val (.slice none 0 0))] :: Item.blk g1 27 [(tI 0), (tI 0), (Ty.val (.slice none 0 0))] :: L)
            obtain rfl : s21 = z23 := hx.symm
            replace h := hz24
            refine okC_region ?_
            refine okL_step 47 (pAt g11 0) rfl rfl (does_fieldAddrP 0 Tryd.underlying43 rfl Tryd.sizeOf41 rfl rfl) ?_
            refine okL_step 48 (Ty.own w18) rfl rfl (does_loadB1 Tryd.isAgg41 rfl 2 rfl rfl) ?_
            refine okL_step 49 (Ty.agg [(tI s21), (tI s17.1), (tI 0), (tI 0), (tI s17.1)]) rfl rfl (does_loadBA [(tI s21), (tI s17.1), (tI 0), (tI 0), (tI s17.1)] Tryd.isAgg46 Tryd.sizeOf46 rfl 0 rfl rfl rfl) ?_
            refine okL_step 50 (Ty.agg [(tI s21), (tI s17.1), (tI 0), (tI 0), (tI s17.1), (Ty.val (.slice none 0 0))]) rfl rfl (does_build [(tI s21), (tI s17.1), (tI 0), (tI 0), (tI s17.1), (Ty.val (.slice none 0 0))] Tryd.zeroValue48 Tryd.underlying48 (places48 _ Tryd.underlying48) rfl (fc [(tI s21), (tI s17.1), (tI 0), (tI 0), (tI s17.1)] 0 rfl (part_agg _) rfl rfl (fn_ rfl))) ?_
            refine okL_step 51 (tL 6 VInstr.ty ([(⟨(⟨s21, s17.1, 0, 0, s17.1⟩ : Instr), []⟩ : VInstr)] : List VInstr)) rfl rfl (does_buildSlice (f := VInstr.ty) ([(⟨(⟨s21, s17.1, 0, 0, s17.1⟩ : Instr), []⟩ : VInstr)] : List VInstr) [(tI s21), (tI s17.1), (tI 0), (tI 0), (tI s17.1), (tL 1 lI [])] el41 rfl rfl rfl (fc [(tI s21), (tI s17.1), (tI 0), (tI 0), (tI s17.1), (tL 1 lI [])] 0 rfl (part_sub (part_agg _) (.cons (sub_refl _) (.cons (sub_refl _) (.cons (sub_refl _) (.cons (sub_refl _) (.cons (sub_refl _) (.cons (sub_nil _) SubL.nil))))))) rfl rfl (fn_ rfl)) rfl (fun _ => rfl)) ?_
            obtain ⟨l27, ha28, h⟩ := bs h
            refine okL_stepO 52 rfl rfl (doesO_append (f := VInstr.ty) (l := s17.2) (m := ([(⟨(⟨s21, s17.1, 0, 0, s17.1⟩ : Instr), []⟩ : VInstr)] : List VInstr)) el41 1 l27 (fun v29 => Item.blk g20 46 [(tI s21), (tI s17.1), (tI 0), (tI 0), (tI s17.1)] :: rowL v29 48 6 VInstr.ty l27 :: Item.blk g11 43 [(Ty.own w18), (tI 0), (tI 0), (tI 0), (tI 0)] :: Item.blk g2 27 [(tI a1), (tI s3), (Ty.val (.slice none 0 0))] :: Item.blk g1 27 [(tI 0), (tI 0), (Ty.val (.slice none 0 0))] :: L) ha28 rfl rfl rfl (fun _ => rfl) (fun v29 => ?_))
            refine okL_step 53 (pAt g11 0) rfl rfl (does_fieldAddrP 0 Tryd.underlying43 rfl Tryd.sizeOf41 rfl rfl) ?_
            refine okL_stepU rfl (doesO_storeB (ps := [(Ty.own v29)]) 2 [(Ty.own v29), (tI 0), (tI 0), (tI 0), (tI 0)] (Item.blk g20 46 [(tI s21), (tI s17.1), (tI 0), (tI 0), (tI s17.1)] :: rowL v29 48 6 VInstr.ty l27 :: Item.blk g11 43 [(Ty.own v29), (tI 0), (tI 0), (tI 0), (tI 0)] :: Item.blk g2 27 [(tI a1), (tI s3), (Ty.val (.slice none 0 0))] :: Item.blk g1 27 [(tI 0), (tI 0), (Ty.val (.slice none 0 0))] :: L) rfl rfl (part_one (one_own _)) Tryd.sizeOf41 rfl rfl rfl rfl ?_)
            refine okL_nil ?_
            refine okX_block_normal ?_
            refine okX_next ?_
            refine okC_region ?_
            refine okL_step 36 (tI s17.1) rfl rfl (does_move rfl) ?_
            refine okL_step 37 (tI (w64 (s17.1 + 1))) rfl rfl (does_add rfl rfl) ?_
            refine okL_step 9 (tI (w64 (s17.1 + 1))) rfl rfl (does_assign rfl) ?_
            refine okL_nil ?_
            refine okX_items [Item.blk g20 46 [(tI s21), (tI s17.1), (tI 0), (tI 0), (tI s17.1)]] (rowL v29 48 6 VInstr.ty l27 :: Item.blk g11 43 [(Ty.own v29), (tI 0), (tI 0), (tI 0), (tI 0)] :: Item.blk g2 27 [(tI a1), (tI s3), (Ty.val (.slice none 0 0))] :: Item.blk g1 27 [(tI 0), (tI 0), (Ty.val (.slice none 0 0))] :: L) (pm 0 rfl (pm 0 rfl (pm 0 rfl (pm 0 rfl (pm 0 rfl (pr _)))))) ?_
            exact okX_again k (Nat.lt_succ_self k) (((w64 (s17.1 + 1)), l27), v29) h (cc rfl (cc rfl (cc rfl (cc rfl (cc rfl (cc rfl (cc rfl cn))))))) rfl
        · replace h := cf hb19 h
          refine okC_exit ?_
          refine okX_then_exit ?_
          refine okX_again_exit ?_
          refine okX_block_hit ?_
          exact okX_meet (I := _) (s17.2, w18) (smh h) (cc rfl (cc rfl (cc rfl (cc rfl (cc rfl cn))))) rfl
    · intro x hx
      obtain ⟨s12, w13⟩ := x
      change OkX _ _ _ [(0, (tL 1 lI a0)), (4, (pAt g1 0)), (5, (pAt g2 0)), (6, (tI (w64 (1 + (if 5 < (w64 (Int.tdiv ((a0).length : Int) 6)) then 5 else (w64 (Int.tdiv ((a0).length : Int) 6))))))), (8, (pAt g11 0))] (rowL w13 48 6 VInstr.ty s12 :: Item.blk g11 43 [(Ty.own w13), (tI 0), (tI 0), (tI 0), (tI 0)] :: Item.blk g2 27 [(tI a1), (tI s3), (Ty.val (.slice none 0 0))] :: Item.blk g1 27 [(tI 0), (tI 0), (Ty.val (.slice none 0 0))] :: L)
      obtain rfl : s12 = z14 := hx.symm
      replace h := hz15
      refine okX_next ?_
      refine okC_seq ?_
      refine okC_region ?_
      refine okL_step 54 (pAt g11 1) rfl rfl (does_fieldAddrP 1 Tryd.underlying43 rfl Tryd.sizeOf3 rfl rfl) ?_
      refine okL_stepU rfl (doesO_storeB (ps := [(tI 1)]) 1 [(Ty.own w13), (tI 1), (tI 0), (tI 0), (tI 0)] (rowL w13 48 6 VInstr.ty s12 :: Item.blk g11 43 [(Ty.own w13), (tI 1), (tI 0), (tI 0), (tI 0)] :: Item.blk g2 27 [(tI a1), (tI s3), (Ty.val (.slice none 0 0))] :: Item.blk g1 27 [(tI 0), (tI 0), (Ty.val (.slice none 0 0))] :: L) rfl rfl (part_one (one_i _)) Tryd.sizeOf3 rfl rfl rfl rfl ?_)
      refine okL_step 55 (pAt g11 3) rfl rfl (does_fieldAddrP 3 Tryd.underlying43 rfl Tryd.sizeOf3 rfl rfl) ?_
      refine okL_stepU rfl (doesO_storeB (ps := [(tI 1)]) 1 [(Ty.own w13), (tI 1), (tI 0), (tI 1), (tI 0)] (rowL w13 48 6 VInstr.ty s12 :: Item.blk g11 43 [(Ty.own w13), (tI 1), (tI 0), (tI 1), (tI 0)] :: Item.blk g2 27 [(tI a1), (tI s3), (Ty.val (.slice none 0 0))] :: Item.blk g1 27 [(tI 0), (tI 0), (Ty.val (.slice none 0 0))] :: L) rfl rfl (part_one (one_i _)) Tryd.sizeOf3 rfl rfl rfl rfl ?_)
      refine okL_nil ?_
      refine okX_next ?_
      refine okC_seq ?_
      refine okC_region ?_
      refine okL_step 56 (pAt g2 2) rfl rfl (does_fieldAddrP 2 Tryd.underlying27 rfl Tryd.sizeOf25 rfl rfl) ?_
      refine okL_step 57 (Ty.val (.slice none 0 0)) rfl rfl (does_loadB1 Tryd.isAgg25 rfl 2 rfl rfl) ?_
      refine okL_publishB 0 [] [(tL 6 VInstr.ty s12), (tI 1), (tI 0), (tI 1), (tI 0)] (pm 0 rfl (pm 0 rfl (pr _))) rfl an rfl ?_
      refine okL_step 58 (Ty.agg [(tL 6 VInstr.ty s12), (tI 1), (tI 0), (tI 1), (tI 0)]) rfl rfl (does_loadBA [(tL 6 VInstr.ty s12), (tI 1), (tI 0), (tI 1), (tI 0)] Tryd.isAgg43 Tryd.sizeOf43 rfl 0 rfl rfl rfl) ?_
      refine okL_step 59 (tL 5 Block.ty ([(⟨s12, 1, 0, 1, 0⟩ : Block)] : List Block)) rfl rfl (does_buildSlice (f := Block.ty) ([(⟨s12, 1, 0, 1, 0⟩ : Block)] : List Block) [(tL 6 VInstr.ty s12), (tI 1), (tI 0), (tI 1), (tI 0)] el25 rfl rfl rfl (fc [(tL 6 VInstr.ty s12), (tI 1), (tI 0), (tI 1), (tI 0)] 0 rfl (part_agg _) rfl rfl (fn_ rfl)) rfl (fun _ => rfl)) ?_
      obtain ⟨l30, ha31, h⟩ := bs h
      refine okL_stepO 60 rfl rfl (doesO_appendN (f := Block.ty) (m := ([(⟨s12, 1, 0, 1, 0⟩ : Block)] : List Block)) el25 l30 ha31 rfl rfl (fun v32 => ?_))
      refine okL_step 61 (pAt g2 2) rfl rfl (does_fieldAddrP 2 Tryd.underlying27 rfl Tryd.sizeOf25 rfl rfl) ?_
      refine okL_stepU rfl (doesO_storeB (ps := [(Ty.own v32)]) 2 [(tI a1), (tI s3), (Ty.own v32)] (rowL v32 43 5 Block.ty l30 :: Item.blk g11 43 [(tL 6 VInstr.ty s12), (tI 1), (tI 0), (tI 1), (tI 0)] :: Item.blk g2 27 [(tI a1), (tI s3), (Ty.own v32)] :: Item.blk g1 27 [(tI 0), (tI 0), (Ty.val (.slice none 0 0))] :: L) rfl rfl (part_one (one_own _)) Tryd.sizeOf25 rfl rfl rfl rfl ?_)
      refine okL_nil ?_
      refine okX_next ?_
      refine okC_seq ?_
      refine okC_seq ?_
      refine okC_region ?_
      refine okL_step 11 (tI 0) rfl rfl (does_assign rfl) ?_
      refine okL_nil ?_
      refine okX_next ?_
      obtain ⟨z35, h37, hz36⟩ := bs h
      refine okC_meetE (X := ((List Block) × Value)) (fun x => z35 = x.1) (fun x : ((List Block) × Value) => [(4, (pAt g1 0)), (5, (pAt g2 0))]) (fun x : ((List Block) × Value) => rowL x.2 43 5 Block.ty x.1 :: Item.blk g11 43 [(tL 6 VInstr.ty s12), (tI 1), (tI 0), (tI 1), (tI 0)] :: Item.blk g2 27 [(tI a1), (tI s3), (Ty.own x.2)] :: Item.blk g1 27 [(tI 0), (tI 0), (Ty.val (.slice none 0 0))] :: L) ?_ ?_
      · refine okC_block ?_
        refine okC_loop (X := ((Int × (List Block)) × Value)) (fun k x => keep2_VFunc_l3 K a0 a1 s3 k x.1 = some z35) (fun x : ((Int × (List Block)) × Value) => [(0, (tL 1 lI a0)), (4, (pAt g1 0)), (5, (pAt g2 0)), (6, (tI (w64 (1 + (if 5 < (w64 (Int.tdiv ((a0).length : Int) 6)) then 5 else (w64 (Int.tdiv ((a0).length : Int) 6))))))), (11, (tI x.1.1))]) (fun x : ((Int × (List Block)) × Value) => rowL x.2 43 5 Block.ty x.1.2 :: Item.blk g11 43 [(tL 6 VInstr.ty s12), (tI 1), (tI 0), (tI 1), (tI 0)] :: Item.blk g2 27 [(tI a1), (tI s3), (Ty.own x.2)] :: Item.blk g1 27 [(tI 0), (tI 0), (Ty.val (.slice none 0 0))] :: L) K ((0, l30), v32) h37 (cc rfl (cc rfl (cc rfl (cc rfl (cc rfl cn))))) rfl (fun k x hI => ?_)
        obtain ⟨s38, w39⟩ := x
        change OkC _ _ _ [(0, (tL 1 lI a0)), (4, (pAt g1 0)), (5, (pAt g2 0)), (6, (tI (w64 (1 + (if 5 < (w64 (Int.tdiv ((a0).length : Int) 6)) then 5 else (w64 (Int.tdiv ((a0).length : Int) 6))))))), (11, (tI s38.1))] (rowL w39 43 5 Block.ty s38.2 :: Item.blk g11 43 [(tL 6 VInstr.ty s12), (tI 1), (tI 0), (tI 1), (tI 0)] :: Item.blk g2 27 [(tI a1), (tI s3), (Ty.own w39)] :: Item.blk g1 27 [(tI 0), (tI 0), (Ty.val (.slice none 0 0))] :: L)
        cases k with
        | zero => exact (nz hI).elim
        | succ k =>
          have h : keep2_VFunc_l3 K a0 a1 s3 (k + 1) s38 = some z35 := hI
          rw [keep2_VFunc_l3.eq_2] at h
          refine okC_seq ?_
          refine okC_seq ?_
          refine okC_region ?_
          refine okL_step 62 (tI s38.1) rfl rfl (does_move rfl) ?_
          refine okL_step 63 (tI (w64 (1 + (if 5 < (w64 (Int.tdiv ((a0).length : Int) 6)) then 5 else (w64 (Int.tdiv ((a0).length : Int) 6)))))) rfl rfl (does_move rfl) ?_
          refine okL_step 64 (tB (decide (s38.1 < (w64 (1 + (if 5 < (w64 (Int.tdiv ((a0).length : Int) 6)) then 5 else (w64 (Int.tdiv ((a0).length : Int) 6)))))))) rfl rfl (does_lss rfl rfl) ?_
          refine okL_nil ?_
          refine okX_next ?_
          refine okC_cond (b := (decide (s38.1 < (w64 (1 + (if 5 < (w64 (Int.tdiv ((a0).length : Int) 6)) then 5 else (w64 (Int.tdiv ((a0).length : Int) 6)))))))) rfl (fun hb40 => ?_) (fun hb40 => ?_)
          · replace h := ct hb40 h
            refine okC_skip ?_
            refine okX_next ?_
            refine okC_seq ?_
            refine okC_block ?_
            refine okC_seq ?_
            refine okC_region ?_
            refine okL_stepO 12 rfl rfl (doesO_alloc [(Ty.val (.slice none 0 0)), (tI 0), (tI 0), (tI 0), (tI 0)] Tryd.zeroValue43 (part_of (sub_agg [(.slice none 0 0), (.int .i64 0), (.int .i64 0), (.int .i64 0), (.int .i64 0)] rfl) (part_agg _)) (fun g41 => ?_))
            refine okL_nil ?_
            refine okX_next ?_
            refine okC_seq ?_
            refine okC_seq ?_
            refine okC_region ?_
            refine okL_step 13 (tI 0) rfl rfl (does_assign rfl) ?_
            refine okL_nil ?_
            refine okX_next ?_
            refine okC_nilrowB (sz := 6) VInstr.ty 48 0 0 [(Ty.own (.slice none 0 0)), (tI 0), (tI 0), (tI 0), (tI 0)] (rowL (.slice none 0 0) 48 6 VInstr.ty ([] : List VInstr) :: Item.blk g41 43 [(Ty.own (.slice none 0 0)), (tI 0), (tI 0), (tI 0), (tI 0)] :: rowL w39 43 5 Block.ty s38.2 :: Item.blk g11 43 [(tL 6 VInstr.ty s12), (tI 1), (tI 0), (tI 1), (tI 0)] :: Item.blk g2 27 [(tI a1), (tI s3), (Ty.own w39)] :: Item.blk g1 27 [(tI 0), (tI 0), (Ty.val (.slice none 0 0))] :: L) rfl rfl rfl rfl ?_
            obtain ⟨z44, h46, hz45⟩ := bs h
            refine okC_meetE (X := ((List VInstr) × Value)) (fun x => z44 = x.1) (fun x : ((List VInstr) × Value) => [(0, (tL 1 lI a0)), (4, (pAt g1 0)), (5, (pAt g2 0)), (6, (tI (w64 (1 + (if 5 < (w64 (Int.tdiv ((a0).length : Int) 6)) then 5 else (w64 (Int.tdiv ((a0).length : Int) 6))))))), (11, (tI s38.1)), (12, (pAt g41 0))]) (fun x : ((List VInstr) × Value) => rowL x.2 48 6 VInstr.ty x.1 :: Item.blk g41 43 [(Ty.own x.2), (tI 0), (tI 0), (tI 0), (tI 0)] :: rowL w39 43 5 Block.ty s38.2 :: Item.blk g11 43 [(tL 6 VInstr.ty s12), (tI 1), (tI 0), (tI 1), (tI 0)] :: Item.blk g2 27 [(tI a1), (tI s3), (Ty.own w39)] :: Item.blk g1 27 [(tI 0), (tI 0), (Ty.val (.slice none 0 0))] :: L) ?_ ?_
            · refine okC_block ?_
              refine okC_loop (X := ((Int × (List VInstr)) × Value)) (fun k x => keep2_VFunc_l4 K a0 a1 s3 s38 k x.1 = some z44) (fun x : ((Int × (List VInstr)) × Value) => [(0, (tL 1 lI a0)), (4, (pAt g1 0)), (5, (pAt g2 0)), (6, (tI (w64 (1 + (if 5 < (w64 (Int.tdiv ((a0).length : Int) 6)) then 5 else (w64 (Int.tdiv ((a0).length : Int) 6))))))), (11, (tI s38.1)), (12, (pAt g41 0)), (13, (tI x.1.1))]) (fun x : ((Int × (List VInstr)) × Value) => rowL x.2 48 6 VInstr.ty x.1.2 :: Item.blk g41 43 [(Ty.own x.2), (tI 0), (tI 0), (tI 0), (tI 0)] :: rowL w39 43 5 Block.ty s38.2 :: Item.blk g11 43 [(tL 6 VInstr.ty s12), (tI 1), (tI 0), (tI 1), (tI 0)] :: Item.blk g2 27 [(tI a1), (tI s3), (Ty.own w39)] :: Item.blk g1 27 [(tI 0), (tI 0), (Ty.val (.slice none 0 0))] :: L) K ((0, ([] : List VInstr)), (.slice none 0 0)) h46 (cc rfl (cc rfl (cc rfl (cc rfl (cc rfl (cc rfl (cc rfl cn))))))) rfl (fun k x hI => ?_)
              obtain ⟨s47, w48⟩ := x
              change OkC _ _ _ [(0, (tL 1 lI a0)), (4, (pAt g1 0)), (5, (pAt g2 0)), (6, (tI (w64 (1 + (if 5 < (w64 (Int.tdiv ((a0).length : Int) 6)) then 5 else (w64 (Int.tdiv ((a0).length : Int) 6))))))), (11, (tI s38.1)), (12, (pAt g41 0)), (13, (tI s47.1))] (rowL w48 48 6 VInstr.ty s47.2 :: Item.blk g41 43 [(Ty.own w48), (tI 0), (tI 0), (tI 0), (tI 0)] :: rowL w39 43 5 Block.ty s38.2 :: Item.blk g11 43 [(tL 6 VInstr.ty s12), (tI 1), (tI 0), (tI 1), (tI 0)] :: Item.blk g2 27 [(tI a1), (tI s3), (Ty.own w39)] :: Item.blk g1 27 [(tI 0), (tI 0), (Ty.val (.slice none 0 0))] :: L)
              cases k with
              | zero => exact (nz hI).elim
              | succ k =>
                have h : keep2_VFunc_l4 K a0 a1 s3 s38 (k + 1) s47 = some z44 := hI
                rw [keep2_VFunc_l4.eq_2] at h
                refine okC_seq ?_
                refine okC_seq ?_
                refine okC_region ?_
                refine okL_step 67 (tI s47.1) rfl rfl (does_move rfl) ?_
                refine okL_step 68 (tB (decide (s47.1 < 5))) rfl rfl (does_lss rfl rfl) ?_
                refine okL_step 69 (tB (decide (s47.1 < 5))) rfl rfl (does_move rfl) ?_
                refine okL_meet (X := Bool) 8 (fun x => x = ((decide (s47.1 < 5)) && (decide ((w64 ((w64 (6 * s38.1)) + s47.1)) < ((a0).length : Int))))) (fun x : Bool => [(0, (tL 1 lI a0)), (4, (pAt g1 0)), (5, (pAt g2 0)), (6, (tI (w64 (1 + (if 5 < (w64 (Int.tdiv ((a0).length : Int) 6)) then 5 else (w64 (Int.tdiv ((a0).length : Int) 6))))))), (11, (tI s38.1)), (12, (pAt g41 0)), (13, (tI s47.1)), (77, (tB x))]) (fun x : Bool => rowL w48 48 6 VInstr.ty s47.2 :: Item.blk g41 43 [(Ty.own w48), (tI 0), (tI 0), (tI 0), (tI 0)] :: rowL w39 43 5 Block.ty s38.2 :: Item.blk g11 43 [(tL 6 VInstr.ty s12), (tI 1), (tI 0), (tI 1), (tI 0)] :: Item.blk g2 27 [(tI a1), (tI s3), (Ty.own w39)] :: Item.blk g1 27 [(tI 0), (tI 0), (Ty.val (.slice none 0 0))] :: L) _ rfl ?_ ?_
                · refine okL_split (decide (s47.1 < 5)) (fun hb49 => ?_) (fun hb49 => ?_)
                  · refine okL_guard 70 (tI s38.1) 69 (decide (s47.1 < 5)) rfl rfl hb49 rfl rfl (does_move rfl) ?_
                    refine okL_guard 71 (tI (w64 (6 * s38.1))) 69 (decide (s47.1 < 5)) rfl rfl hb49 rfl rfl (does_mul rfl rfl) ?_
                    refine okL_guard 72 (tI s47.1) 69 (decide (s47.1 < 5)) rfl rfl hb49 rfl rfl (does_move rfl) ?_
                    refine okL_guard 73 (tI (w64 ((w64 (6 * s38.1)) + s47.1))) 69 (decide (s47.1 < 5)) rfl rfl hb49 rfl rfl (does_add rfl rfl) ?_
                    refine okL_guard 74 (tL 1 lI a0) 69 (decide (s47.1 < 5)) rfl rfl hb49 rfl rfl (does_move rfl) ?_
                    refine okL_guard 75 (tI ((a0).length : Int)) 69 (decide (s47.1 < 5)) rfl rfl hb49 rfl rfl (does_len (sz := 1) (f := lI) (l := a0) rfl Tryd.underlying31 rfl) ?_
                    refine okL_guard 76 (tB (decide ((w64 ((w64 (6 * s38.1)) + s47.1)) < ((a0).length : Int)))) 69 (decide (s47.1 < 5)) rfl rfl hb49 rfl rfl (does_lss rfl rfl) ?_
                    refine okL_step 77 (tB (decide ((w64 ((w64 (6 * s38.1)) + s47.1)) < ((a0).length : Int)))) rfl rfl (does_pick_t (decide (s47.1 < 5)) rfl hb49 rfl) ?_
                    refine okL_nil ?_
                    exact okX_meet (I := _) (decide ((w64 ((w64 (6 * s38.1)) + s47.1)) < ((a0).length : Int))) (and_t hb49) (cc rfl (cc rfl (cc rfl (cc rfl (cc rfl (cc rfl (cc rfl (cc rfl cn)))))))) rfl
                  · refine okL_skip 70 69 (decide (s47.1 < 5)) rfl rfl hb49 rfl rfl ?_
                    refine okL_skip 71 69 (decide (s47.1 < 5)) rfl rfl hb49 rfl rfl ?_
                    refine okL_skip 72 69 (decide (s47.1 < 5)) rfl rfl hb49 rfl rfl ?_
                    refine okL_skip 73 69 (decide (s47.1 < 5)) rfl rfl hb49 rfl rfl ?_
                    refine okL_skip 74 69 (decide (s47.1 < 5)) rfl rfl hb49 rfl rfl ?_
                    refine okL_skip 75 69 (decide (s47.1 < 5)) rfl rfl hb49 rfl rfl ?_
                    refine okL_skip 76 69 (decide (s47.1 < 5)) rfl rfl hb49 rfl rfl ?_
                    refine okL_step 77 (tB false) rfl rfl (does_pick_f (decide (s47.1 < 5)) rfl hb49 rfl) ?_
                    refine okL_nil ?_
                    exact okX_meet (I := _) false (and_f hb49) (cc rfl (cc rfl (cc rfl (cc rfl (cc rfl (cc rfl (cc rfl (cc rfl cn)))))))) rfl
                · intro x58 hx
                  subst hx
                  change OkL _ _ _ _ [(0, (tL 1 lI a0)), (4, (pAt g1 0)), (5, (pAt g2 0)), (6, (tI (w64 (1 + (if 5 < (w64 (Int.tdiv ((a0).length : Int) 6)) then 5 else (w64 (Int.tdiv ((a0).length : Int) 6))))))), (11, (tI s38.1)), (12, (pAt g41 0)), (13, (tI s47.1)), (77, (tB ((decide (s47.1 < 5)) && (decide ((w64 ((w64 (6 * s38.1)) + s47.1)) < ((a0).length : Int))))))] (rowL w48 48 6 VInstr.ty s47.2 :: Item.blk g41 43 [(Ty.own w48), (tI 0), (tI 0), (tI 0), (tI 0)] :: rowL w39 43 5 Block.ty s38.2 :: Item.blk g11 43 [(tL 6 VInstr.ty s12), (tI 1), (tI 0), (tI 1), (tI 0)] :: Item.blk g2 27 [(tI a1), (tI s3), (Ty.own w39)] :: Item.blk g1 27 [(tI 0), (tI 0), (Ty.val (.slice none 0 0))] :: L)
                  refine okL_nil ?_
                  refine okX_next ?_
                  refine okC_cond (b := ((decide (s47.1 < 5)) && (decide ((w64 ((w64 (6 * s38.1)) + s47.1)) < ((a0).length : Int))))) rfl (fun hb50 => ?_) (fun hb50 => ?_)
                  · replace h := ct hb50 h
                    refine okC_skip ?_
                    refine okX_next ?_
                    refine okC_seq ?_
                    refine okC_block ?_
                    refine okC_cov [(0, (tL 1 lI a0)), (4, (pAt g1 0)), (5, (pAt g2 0)), (6, (tI (w64 (1 + (if 5 < (w64 (Int.tdiv ((a0).length : Int) 6)) then 5 else (w64 (Int.tdiv ((a0).length : Int) 6))))))), (11, (tI s38.1)), (12, (pAt g41 0)), (13, (tI s47.1))] (cc rfl (cc rfl (cc rfl (cc rfl (cc rfl (cc rfl (cc rfl cn))))))) ?_
                    obtain ⟨y51, hi52, h⟩ := bs h
                    obtain ⟨r53, hc54, h⟩ := bs h
                    refine okC_draw 12 [some (80, (pAt g41 0)), some (81, (Ty.own w48)), some (82, (tL 1 lI a0)), some (83, (tI s38.1)), some (84, (tI (w64 (6 * s38.1)))), some (85, (tI s47.1)), some (86, (tI (w64 ((w64 (6 * s38.1)) + s47.1)))), some (87, (Ty.ptr [(tI y51)])), some (88, (tI y51)), some (89, (Ty.agg [(tI a1), (tI s3), (Ty.own w39)])), some (90, (Ty.agg [(tI r53.Instr.Op), (tI r53.Instr.A), (tI r53.Instr.B), (tI r53.Instr.C), (tI r53.Instr.N), (tL 1 lI r53.Args)])), some (91, (tL 6 VInstr.ty ([r53] : List VInstr)))] ⟨rowL w48 48 6 VInstr.ty s47.2 :: Item.blk g41 43 [(Ty.own w48), (tI 0), (tI 0), (tI 0), (tI 0)] :: rowL w39 43 5 Block.ty s38.2 :: Item.blk g11 43 [(tL 6 VInstr.ty s12), (tI 1), (tI 0), (tI 1), (tI 0)] :: Item.blk g2 27 [(tI a1), (tI s3), (Ty.own w39)] :: Item.blk g1 27 [(tI 0), (tI 0), (Ty.val (.slice none 0 0))] :: ([] : List Item), rowL w48 48 6 VInstr.ty s47.2 :: Item.blk g41 43 [(Ty.own w48), (tI 0), (tI 0), (tI 0), (tI 0)] :: rowL w39 43 5 Block.ty s38.2 :: Item.blk g11 43 [(tL 6 VInstr.ty s12), (tI 1), (tI 0), (tI 1), (tI 0)] :: Item.blk g2 27 [(tI a1), (tI s3), (Ty.own w39)] :: Item.blk g1 27 [(tI 0), (tI 0), (Ty.val (.slice none 0 0))] :: ([] : List Item), []⟩ [] mixed rfl rfl (by kernel_rfl) rfl (by kernel_rfl) rfl rfl rfl (fun _ h => List.Sublist.subset (.cons_cons _ (.cons_cons _ (.cons_cons _ (.cons_cons _ (.cons_cons _ (.cons_cons _ (List.nil_sublist _))))))) h) (fun _ h => List.Sublist.subset (.cons_cons _ (.cons_cons _ (.cons_cons _ (.cons_cons _ (.cons_cons _ (.cons_cons _ (List.nil_sublist _))))))) h) rfl (by kernel_rfl) (.inr ⟨by kernel_rfl, by kernel_rfl⟩) (by kernel_rfl) (by kernel_rfl) (dc (draw_plain rfl (does_fieldAddrP 0 Tryd.underlying43 rfl Tryd.sizeOf41 rfl rfl)) (dc (draw_plain rfl (does_loadB1 Tryd.isAgg41 rfl 1 rfl rfl)) (dc (draw_plain rfl (does_move rfl)) (dc (draw_plain rfl (does_move rfl)) (dc (draw_plain rfl (does_mul rfl rfl)) (dc (draw_plain rfl (does_move rfl)) (dc (draw_plain rfl (does_add rfl rfl)) (dc (draw_plain rfl (does_index (sz := 1) (f := lI) (l := a0) (n := (w64 ((w64 (6 * s38.1)) + s47.1))) y51 Tryd.underlying31 Tryd.sizeOf3 hi52 rfl rfl)) (dc (draw_plain rfl (does_load1 Tryd.isAgg3 rfl)) (dc (draw_plain rfl (does_loadBA [(tI a1), (tI s3), (Ty.own w39)] Tryd.isAgg27 Tryd.sizeOf27 rfl 4 rfl rfl rfl)) (dc (draw_plain rfl (does_callS (c_keep2_VInstr K y51 (⟨a1, s3, []⟩ : VFunc) r53 hc54) rfl Tryd.call57 (.cons rfl (sub_refl _) (.cons rfl (sub_aggs (.cons (sub_refl _) (.cons (sub_refl _) (.cons (sub_any (one_own _)) SubL.nil)))) ArgSub.nil)))) (dc (draw_plain rfl (does_buildSlice (f := VInstr.ty) ([r53] : List VInstr) [(tI r53.Instr.Op), (tI r53.Instr.A), (tI r53.Instr.B), (tI r53.Instr.C), (tI r53.Instr.N), (tL 1 lI r53.Args)] el41 rfl rfl rfl (fc [(tI r53.Instr.Op), (tI r53.Instr.A), (tI r53.Instr.B), (tI r53.Instr.C), (tI r53.Instr.N), (tL 1 lI r53.Args)] 0 rfl (part_agg _) rfl rfl (fn_ rfl)) rfl (fun _ => rfl))) (dn))))))))))))) ?_
                    refine ch_end ?_
                    change OkL _ _ _ _ [(80, (pAt g41 0)), (81, (Ty.own w48)), (82, (tL 1 lI a0)), (83, (tI s38.1)), (84, (tI (w64 (6 * s38.1)))), (85, (tI s47.1)), (86, (tI (w64 ((w64 (6 * s38.1)) + s47.1)))), (87, (Ty.ptr [(tI y51)])), (88, (tI y51)), (89, (Ty.agg [(tI a1), (tI s3), (Ty.own w39)])), (90, (Ty.agg [(tI r53.Instr.Op), (tI r53.Instr.A), (tI r53.Instr.B), (tI r53.Instr.C), (tI r53.Instr.N), (tL 1 lI r53.Args)])), (91, (tL 6 VInstr.ty ([r53] : List VInstr))), (0, (tL 1 lI a0)), (4, (pAt g1 0)), (5, (pAt g2 0)), (6, (tI (w64 (1 + (if 5 < (w64 (Int.tdiv ((a0).length : Int) 6)) then 5 else (w64 (Int.tdiv ((a0).length : Int) 6))))))), (11, (tI s38.1)), (12, (pAt g41 0)), (13, (tI s47.1))] (rowL w48 48 6 VInstr.ty s47.2 :: Item.blk g41 43 [(Ty.own w48), (tI 0), (tI 0), (tI 0), (tI 0)] :: rowL w39 43 5 Block.ty s38.2 :: Item.blk g11 43 [(tL 6 VInstr.ty s12), (tI 1), (tI 0), (tI 1), (tI 0)] :: Item.blk g2 27 [(tI a1), (tI s3), (Ty.own w39)] :: Item.blk g1 27 [(tI 0), (tI 0), (Ty.val (.slice none 0 0))] :: L)
                    obtain ⟨l55, ha56, h⟩ := bs h
                    refine okL_stepO 92 rfl rfl (doesO_append (f := VInstr.ty) (l := s47.2) (m := ([r53] : List VInstr)) el41 0 l55 (fun v57 => rowL v57 48 6 VInstr.ty l55 :: Item.blk g41 43 [(Ty.own w48), (tI 0), (tI 0), (tI 0), (tI 0)] :: rowL w39 43 5 Block.ty s38.2 :: Item.blk g11 43 [(tL 6 VInstr.ty s12), (tI 1), (tI 0), (tI 1), (tI 0)] :: Item.blk g2 27 [(tI a1), (tI s3), (Ty.own w39)] :: Item.blk g1 27 [(tI 0), (tI 0), (Ty.val (.slice none 0 0))] :: L) ha56 rfl rfl rfl (fun _ => rfl) (fun v57 => ?_))
                    refine okL_step 93 (pAt g41 0) rfl rfl (does_fieldAddrP 0 Tryd.underlying43 rfl Tryd.sizeOf41 rfl rfl) ?_
                    refine okL_stepU rfl (doesO_storeB (ps := [(Ty.own v57)]) 1 [(Ty.own v57), (tI 0), (tI 0), (tI 0), (tI 0)] (rowL v57 48 6 VInstr.ty l55 :: Item.blk g41 43 [(Ty.own v57), (tI 0), (tI 0), (tI 0), (tI 0)] :: rowL w39 43 5 Block.ty s38.2 :: Item.blk g11 43 [(tL 6 VInstr.ty s12), (tI 1), (tI 0), (tI 1), (tI 0)] :: Item.blk g2 27 [(tI a1), (tI s3), (Ty.own w39)] :: Item.blk g1 27 [(tI 0), (tI 0), (Ty.val (.slice none 0 0))] :: L) rfl rfl (part_one (one_own _)) Tryd.sizeOf41 rfl rfl rfl rfl ?_)
                    refine okL_nil ?_
                    refine okX_block_normal ?_
                    refine okX_next ?_
                    refine okC_region ?_
                    refine okL_step 78 (tI s47.1) rfl rfl (does_move rfl) ?_
                    refine okL_step 79 (tI (w64 (s47.1 + 1))) rfl rfl (does_add rfl rfl) ?_
                    refine okL_step 13 (tI (w64 (s47.1 + 1))) rfl rfl (does_assign rfl) ?_
                    refine okL_nil ?_
                    exact okX_again k (Nat.lt_succ_self k) (((w64 (s47.1 + 1)), l55), v57) h (cc rfl (cc rfl (cc rfl (cc rfl (cc rfl (cc rfl (cc rfl cn))))))) rfl
                  · replace h := cf hb50 h
                    refine okC_exit ?_
                    refine okX_then_exit ?_
                    refine okX_again_exit ?_
                    refine okX_block_hit ?_
                    exact okX_meet (I := _) (s47.2, w48) (smh h) (cc rfl (cc rfl (cc rfl (cc rfl (cc rfl (cc rfl cn)))))) rfl
            · intro x hx
              obtain ⟨s42, w43⟩ := x
              change OkX _ _ _ [(0, (tL 1 lI a0)), (4, (pAt g1 0)), (5, (pAt g2 0)), (6, (tI (w64 (1 + (if 5 < (w64 (Int.tdiv ((a0).length : Int) 6)) then 5 else (w64 (Int.tdiv ((a0).length : Int) 6))))))), (11, (tI s38.1)), (12, (pAt g41 0))] (rowL w43 48 6 VInstr.ty s42 :: Item.blk g41 43 [(Ty.own w43), (tI 0), (tI 0), (tI 0), (tI 0)] :: rowL w39 43 5 Block.ty s38.2 :: Item.blk g11 43 [(tL 6 VInstr.ty s12), (tI 1), (tI 0), (tI 1), (tI 0)] :: Item.blk g2 27 [(tI a1), (tI s3), (Ty.own w39)] :: Item.blk g1 27 [(tI 0), (tI 0), (Ty.val (.slice none 0 0))] :: L)
              obtain rfl : s42 = z44 := hx.symm
              replace h := hz45
              refine okX_next ?_
              refine okC_seq ?_
              refine okC_region ?_
              refine okL_step 14 (tI 0) rfl rfl (does_assign rfl) ?_
              refine okL_nil ?_
              refine okX_next ?_
              obtain ⟨z61, h63, hz62⟩ := bs h
              refine okC_meet (X := (Int × Value)) (fun x => z61 = x.1) (fun x : (Int × Value) => [(0, (tL 1 lI a0)), (4, (pAt g1 0)), (5, (pAt g2 0)), (6, (tI (w64 (1 + (if 5 < (w64 (Int.tdiv ((a0).length : Int) 6)) then 5 else (w64 (Int.tdiv ((a0).length : Int) 6))))))), (11, (tI s38.1)), (12, (pAt g41 0)), (14, (tI x.1))]) (fun x : (Int × Value) => rowL x.2 48 6 VInstr.ty s42 :: Item.blk g41 43 [(Ty.own x.2), (tI 0), (tI 0), (tI 0), (tI 0)] :: rowL w39 43 5 Block.ty s38.2 :: Item.blk g11 43 [(tL 6 VInstr.ty s12), (tI 1), (tI 0), (tI 1), (tI 0)] :: Item.blk g2 27 [(tI a1), (tI s3), (Ty.own w39)] :: Item.blk g1 27 [(tI 0), (tI 0), (Ty.val (.slice none 0 0))] :: L) ?_ ?_
              · refine okC_seq ?_
                refine okC_region ?_
                refine okL_step 94 (tI s38.1) rfl rfl (does_move rfl) ?_
                refine okL_step 95 (tI (w64 (6 * s38.1))) rfl rfl (does_mul rfl rfl) ?_
                refine okL_step 96 (tI (w64 ((w64 (6 * s38.1)) + 5))) rfl rfl (does_add rfl rfl) ?_
                refine okL_step 97 (tL 1 lI a0) rfl rfl (does_move rfl) ?_
                refine okL_step 98 (tI ((a0).length : Int)) rfl rfl (does_len (sz := 1) (f := lI) (l := a0) rfl Tryd.underlying31 rfl) ?_
                refine okL_step 99 (tB (decide ((w64 ((w64 (6 * s38.1)) + 5)) < ((a0).length : Int)))) rfl rfl (does_lss rfl rfl) ?_
                refine okL_nil ?_
                refine okX_next ?_
                refine okC_cond (b := (decide ((w64 ((w64 (6 * s38.1)) + 5)) < ((a0).length : Int)))) rfl (fun hb64 => ?_) (fun hb64 => ?_)
                · replace h63 := ct hb64 h63
                  refine okC_region ?_
                  refine okL_step 100 (tL 1 lI a0) rfl rfl (does_move rfl) ?_
                  refine okL_step 101 (tI s38.1) rfl rfl (does_move rfl) ?_
                  refine okL_step 102 (tI (w64 (6 * s38.1))) rfl rfl (does_mul rfl rfl) ?_
                  refine okL_step 103 (tI (w64 ((w64 (6 * s38.1)) + 5))) rfl rfl (does_add rfl rfl) ?_
                  obtain ⟨y65, hi66, h63⟩ := bs h63
                  refine okL_step 104 (Ty.ptr [(tI y65)]) rfl rfl (does_index (sz := 1) (f := lI) (l := a0) (n := (w64 ((w64 (6 * s38.1)) + 5))) y65 Tryd.underlying31 Tryd.sizeOf3 hi66 rfl rfl) ?_
                  refine okL_step 105 (tI y65) rfl rfl (does_load1 Tryd.isAgg3 rfl) ?_
                  refine okL_step 14 (tI y65) rfl rfl (does_assign rfl) ?_
                  refine okL_nil ?_
                  exact okX_meet (I := _) (y65, w43) (smh h63) (cc rfl (cc rfl (cc rfl (cc rfl (cc rfl (cc rfl (cc rfl cn))))))) rfl
                · replace h63 := cf hb64 h63
                  refine okC_skip ?_
                  exact okX_meet (I := _) (0, w43) (smh h63) (cc rfl (cc rfl (cc rfl (cc rfl (cc rfl (cc rfl (cc rfl cn))))))) rfl
              · intro x hx
                obtain ⟨s59, w60⟩ := x
                change OkC _ _ _ [(0, (tL 1 lI a0)), (4, (pAt g1 0)), (5, (pAt g2 0)), (6, (tI (w64 (1 + (if 5 < (w64 (Int.tdiv ((a0).length : Int) 6)) then 5 else (w64 (Int.tdiv ((a0).length : Int) 6))))))), (11, (tI s38.1)), (12, (pAt g41 0)), (14, (tI s59))] (rowL w60 48 6 VInstr.ty s42 :: Item.blk g41 43 [(Ty.own w60), (tI 0), (tI 0), (tI 0), (tI 0)] :: rowL w39 43 5 Block.ty s38.2 :: Item.blk g11 43 [(tL 6 VInstr.ty s12), (tI 1), (tI 0), (tI 1), (tI 0)] :: Item.blk g2 27 [(tI a1), (tI s3), (Ty.own w39)] :: Item.blk g1 27 [(tI 0), (tI 0), (Ty.val (.slice none 0 0))] :: L)
                obtain rfl : s59 = z61 := hx.symm
                replace h := hz62
                refine okC_seq ?_
                refine okC_region ?_
                refine okL_step 106 (tI s59) rfl rfl (does_move rfl) ?_
                refine okL_step 107 (Ty.agg [(tI s59)]) rfl rfl (does_build [(tI s59)] Tryd.zeroValue103 Tryd.underlying103 (places103 _ Tryd.underlying103) rfl (fc [(tI s59)] 0 rfl (part_one (one_i _)) rfl rfl (fn_ rfl))) ?_
                refine okL_stepO 108 rfl rfl (doesO_box [(tI s59)] rfl (part_agg _) (fun g67 => ?_))
                refine okL_step 15 (pAt g67 0) rfl rfl (does_assign rfl) ?_
                refine okL_nil ?_
                refine okX_next ?_
                obtain ⟨z70, h72, hz71⟩ := bs h
                refine okC_meet (X := ((Int × Int × Int × Int × Int) × Value)) (fun x => z70 = x.1) (fun x : ((Int × Int × Int × Int × Int) × Value) => [(0, (tL 1 lI a0)), (4, (pAt g1 0)), (5, (pAt g2 0)), (6, (tI (w64 (1 + (if 5 < (w64 (Int.tdiv ((a0).length : Int) 6)) then 5 else (w64 (Int.tdiv ((a0).length : Int) 6))))))), (11, (tI s38.1)), (12, (pAt g41 0))]) (fun x : ((Int × Int × Int × Int × Int) × Value) => Item.blk g67 103 [(tI x.1.1)] :: rowL x.2 48 6 VInstr.ty s42 :: Item.blk g41 43 [(Ty.own x.2), (tI x.1.2.1), (tI x.1.2.2.1), (tI x.1.2.2.2.1), (tI x.1.2.2.2.2)] :: rowL w39 43 5 Block.ty s38.2 :: Item.blk g11 43 [(tL 6 VInstr.ty s12), (tI 1), (tI 0), (tI 1), (tI 0)] :: Item.blk g2 27 [(tI a1), (tI s3), (Ty.own w39)] :: Item.blk g1 27 [(tI 0), (tI 0), (Ty.val (.slice none 0 0))] :: L) ?_ ?_
                · refine okC_seq ?_
                  refine okC_region ?_
                  refine okL_step 109 (pAt g67 0) rfl rfl (does_move rfl) ?_
                  obtain ⟨r73, hc74, h72⟩ := bs h72
                  refine okL_stepO 110 rfl rfl (doesO_call0 (rowL w60 48 6 VInstr.ty s42 :: Item.blk g41 43 [(Ty.own w60), (tI 0), (tI 0), (tI 0), (tI 0)] :: rowL w39 43 5 Block.ty s38.2 :: Item.blk g11 43 [(tL 6 VInstr.ty s12), (tI 1), (tI 0), (tI 1), (tI 0)] :: Item.blk g2 27 [(tI a1), (tI s3), (Ty.own w39)] :: Item.blk g1 27 [(tI 0), (tI 0), (Ty.val (.slice none 0 0))] :: L) (c_keep2_Digits_Next (⟨s59⟩ : Fullingkeep2Digits) 6 g67 r73 hc74) rfl Tryd.call74 rfl (pm 0 rfl (pr _)) (fun _ => ?_))
                  refine okL_nil ?_
                  refine okX_next ?_
                  refine okC_block ?_
                  refine okC_seq ?_
                  refine okC_region ?_
                  refine okL_step 128 (tB (r73.1 == 0)) rfl rfl (does_eql rfl rfl) ?_
                  refine okL_step 127 (tB (r73.1 == 0)) rfl rfl (does_assign rfl) ?_
                  refine okL_nil ?_
                  refine okX_next ?_
                  refine okC_cond (b := (r73.1 == 0)) rfl (fun hb75 => ?_) (fun hb75 => ?_)
                  · replace h72 := ct hb75 h72
                    refine okC_region ?_
                    refine okL_step 129 (pAt g67 0) rfl rfl (does_move rfl) ?_
                    refine okL_step 130 (tI (w64 (1 + (if 5 < (w64 (Int.tdiv ((a0).length : Int) 6)) then 5 else (w64 (Int.tdiv ((a0).length : Int) 6)))))) rfl rfl (does_move rfl) ?_
                    obtain ⟨r76, hc77, h72⟩ := bs h72
                    refine okL_stepO 131 rfl rfl (doesO_call0 (rowL w60 48 6 VInstr.ty s42 :: Item.blk g41 43 [(Ty.own w60), (tI 0), (tI 0), (tI 0), (tI 0)] :: rowL w39 43 5 Block.ty s38.2 :: Item.blk g11 43 [(tL 6 VInstr.ty s12), (tI 1), (tI 0), (tI 1), (tI 0)] :: Item.blk g2 27 [(tI a1), (tI s3), (Ty.own w39)] :: Item.blk g1 27 [(tI 0), (tI 0), (Ty.val (.slice none 0 0))] :: L) (c_keep2_Digits_Next r73.2 (w64 (1 + (if 5 < (w64 (Int.tdiv ((a0).length : Int) 6)) then 5 else (w64 (Int.tdiv ((a0).length : Int) 6))))) g67 r76 hc77) rfl Tryd.call74 rfl (pm 0 rfl (pr _)) (fun _ => ?_))
                    refine okL_step 132 (tI (w64 (1 + r76.1))) rfl rfl (does_add rfl rfl) ?_
                    refine okL_step 133 (pAt g41 1) rfl rfl (does_fieldAddrP 1 Tryd.underlying43 rfl Tryd.sizeOf3 rfl rfl) ?_
                    refine okL_stepU rfl (doesO_storeB (ps := [(tI 1)]) 2 [(Ty.own w60), (tI 1), (tI 0), (tI 0), (tI 0)] (Item.blk g67 103 [(tI r76.2.N)] :: rowL w60 48 6 VInstr.ty s42 :: Item.blk g41 43 [(Ty.own w60), (tI 1), (tI 0), (tI 0), (tI 0)] :: rowL w39 43 5 Block.ty s38.2 :: Item.blk g11 43 [(tL 6 VInstr.ty s12), (tI 1), (tI 0), (tI 1), (tI 0)] :: Item.blk g2 27 [(tI a1), (tI s3), (Ty.own w39)] :: Item.blk g1 27 [(tI 0), (tI 0), (Ty.val (.slice none 0 0))] :: L) rfl rfl (part_one (one_i _)) Tryd.sizeOf3 rfl rfl rfl rfl ?_)
                    refine okL_step 134 (pAt g41 3) rfl rfl (does_fieldAddrP 3 Tryd.underlying43 rfl Tryd.sizeOf3 rfl rfl) ?_
                    refine okL_stepU rfl (doesO_storeB (ps := [(tI (w64 (1 + r76.1)))]) 2 [(Ty.own w60), (tI 1), (tI 0), (tI (w64 (1 + r76.1))), (tI 0)] (Item.blk g67 103 [(tI r76.2.N)] :: rowL w60 48 6 VInstr.ty s42 :: Item.blk g41 43 [(Ty.own w60), (tI 1), (tI 0), (tI (w64 (1 + r76.1))), (tI 0)] :: rowL w39 43 5 Block.ty s38.2 :: Item.blk g11 43 [(tL 6 VInstr.ty s12), (tI 1), (tI 0), (tI 1), (tI 0)] :: Item.blk g2 27 [(tI a1), (tI s3), (Ty.own w39)] :: Item.blk g1 27 [(tI 0), (tI 0), (Ty.val (.slice none 0 0))] :: L) rfl rfl (part_one (one_i _)) Tryd.sizeOf3 rfl rfl rfl rfl ?_)
                    refine okL_nil ?_
                    refine okX_block_normal ?_
                    exact okX_meet (I := _) ((r76.2.N, 1, 0, (w64 (1 + r76.1)), 0), w60) (smh h72) (cc rfl (cc rfl (cc rfl (cc rfl (cc rfl (cc rfl cn)))))) rfl
                  · replace h72 := cf hb75 h72
                    refine okC_seq ?_
                    refine okC_region ?_
                    refine okL_step 136 (tB (r73.1 == 1)) rfl rfl (does_eql rfl rfl) ?_
                    refine okL_step 135 (tB (r73.1 == 1)) rfl rfl (does_assign rfl) ?_
                    refine okL_nil ?_
                    refine okX_next ?_
                    refine okC_cond (b := (r73.1 == 1)) rfl (fun hb78 => ?_) (fun hb78 => ?_)
                    · replace h72 := ct hb78 h72
                      refine okC_region ?_
                      refine okL_step 137 (pAt g67 0) rfl rfl (does_move rfl) ?_
                      obtain ⟨r79, hc80, h72⟩ := bs h72
                      refine okL_stepO 138 rfl rfl (doesO_call0 (rowL w60 48 6 VInstr.ty s42 :: Item.blk g41 43 [(Ty.own w60), (tI 0), (tI 0), (tI 0), (tI 0)] :: rowL w39 43 5 Block.ty s38.2 :: Item.blk g11 43 [(tL 6 VInstr.ty s12), (tI 1), (tI 0), (tI 1), (tI 0)] :: Item.blk g2 27 [(tI a1), (tI s3), (Ty.own w39)] :: Item.blk g1 27 [(tI 0), (tI 0), (Ty.val (.slice none 0 0))] :: L) (c_keep2_Digits_Next r73.2 9 g67 r79 hc80) rfl Tryd.call74 rfl (pm 0 rfl (pr _)) (fun _ => ?_))
                      refine okL_step 139 (tI (w64 (1 + r79.1))) rfl rfl (does_add rfl rfl) ?_
                      refine okL_step 140 (pAt g41 1) rfl rfl (does_fieldAddrP 1 Tryd.underlying43 rfl Tryd.sizeOf3 rfl rfl) ?_
                      refine okL_stepU rfl (doesO_storeB (ps := [(tI 4)]) 2 [(Ty.own w60), (tI 4), (tI 0), (tI 0), (tI 0)] (Item.blk g67 103 [(tI r79.2.N)] :: rowL w60 48 6 VInstr.ty s42 :: Item.blk g41 43 [(Ty.own w60), (tI 4), (tI 0), (tI 0), (tI 0)] :: rowL w39 43 5 Block.ty s38.2 :: Item.blk g11 43 [(tL 6 VInstr.ty s12), (tI 1), (tI 0), (tI 1), (tI 0)] :: Item.blk g2 27 [(tI a1), (tI s3), (Ty.own w39)] :: Item.blk g1 27 [(tI 0), (tI 0), (Ty.val (.slice none 0 0))] :: L) rfl rfl (part_one (one_i _)) Tryd.sizeOf3 rfl rfl rfl rfl ?_)
                      refine okL_step 141 (pAt g41 3) rfl rfl (does_fieldAddrP 3 Tryd.underlying43 rfl Tryd.sizeOf3 rfl rfl) ?_
                      refine okL_stepU rfl (doesO_storeB (ps := [(tI (w64 (1 + r79.1)))]) 2 [(Ty.own w60), (tI 4), (tI 0), (tI (w64 (1 + r79.1))), (tI 0)] (Item.blk g67 103 [(tI r79.2.N)] :: rowL w60 48 6 VInstr.ty s42 :: Item.blk g41 43 [(Ty.own w60), (tI 4), (tI 0), (tI (w64 (1 + r79.1))), (tI 0)] :: rowL w39 43 5 Block.ty s38.2 :: Item.blk g11 43 [(tL 6 VInstr.ty s12), (tI 1), (tI 0), (tI 1), (tI 0)] :: Item.blk g2 27 [(tI a1), (tI s3), (Ty.own w39)] :: Item.blk g1 27 [(tI 0), (tI 0), (Ty.val (.slice none 0 0))] :: L) rfl rfl (part_one (one_i _)) Tryd.sizeOf3 rfl rfl rfl rfl ?_)
                      refine okL_nil ?_
                      refine okX_block_normal ?_
                      exact okX_meet (I := _) ((r79.2.N, 4, 0, (w64 (1 + r79.1)), 0), w60) (smh h72) (cc rfl (cc rfl (cc rfl (cc rfl (cc rfl (cc rfl cn)))))) rfl
                    · replace h72 := cf hb78 h72
                      refine okC_seq ?_
                      refine okC_region ?_
                      refine okL_step 143 (tB (r73.1 == 2)) rfl rfl (does_eql rfl rfl) ?_
                      refine okL_step 142 (tB (r73.1 == 2)) rfl rfl (does_assign rfl) ?_
                      refine okL_nil ?_
                      refine okX_next ?_
                      refine okC_cond (b := (r73.1 == 2)) rfl (fun hb81 => ?_) (fun hb81 => ?_)
                      · replace h72 := ct hb81 h72
                        refine okC_region ?_
                        refine okL_step 144 (pAt g67 0) rfl rfl (does_move rfl) ?_
                        refine okL_step 145 (pAt g2 1) rfl rfl (does_fieldAddrP 1 Tryd.underlying27 rfl Tryd.sizeOf3 rfl rfl) ?_
                        refine okL_step 146 (tI s3) rfl rfl (does_loadB1 Tryd.isAgg3 rfl 5 rfl rfl) ?_
                        obtain ⟨r82, hc83, h72⟩ := bs h72
                        refine okL_stepO 147 rfl rfl (doesO_call0 (rowL w60 48 6 VInstr.ty s42 :: Item.blk g41 43 [(Ty.own w60), (tI 0), (tI 0), (tI 0), (tI 0)] :: rowL w39 43 5 Block.ty s38.2 :: Item.blk g11 43 [(tL 6 VInstr.ty s12), (tI 1), (tI 0), (tI 1), (tI 0)] :: Item.blk g2 27 [(tI a1), (tI s3), (Ty.own w39)] :: Item.blk g1 27 [(tI 0), (tI 0), (Ty.val (.slice none 0 0))] :: L) (c_keep2_Digits_Next r73.2 s3 g67 r82 hc83) rfl Tryd.call74 rfl (pm 0 rfl (pr _)) (fun _ => ?_))
                        refine okL_step 148 (pAt g41 1) rfl rfl (does_fieldAddrP 1 Tryd.underlying43 rfl Tryd.sizeOf3 rfl rfl) ?_
                        refine okL_stepU rfl (doesO_storeB (ps := [(tI 3)]) 2 [(Ty.own w60), (tI 3), (tI 0), (tI 0), (tI 0)] (Item.blk g67 103 [(tI r82.2.N)] :: rowL w60 48 6 VInstr.ty s42 :: Item.blk g41 43 [(Ty.own w60), (tI 3), (tI 0), (tI 0), (tI 0)] :: rowL w39 43 5 Block.ty s38.2 :: Item.blk g11 43 [(tL 6 VInstr.ty s12), (tI 1), (tI 0), (tI 1), (tI 0)] :: Item.blk g2 27 [(tI a1), (tI s3), (Ty.own w39)] :: Item.blk g1 27 [(tI 0), (tI 0), (Ty.val (.slice none 0 0))] :: L) rfl rfl (part_one (one_i _)) Tryd.sizeOf3 rfl rfl rfl rfl ?_)
                        refine okL_step 149 (pAt g41 2) rfl rfl (does_fieldAddrP 2 Tryd.underlying43 rfl Tryd.sizeOf3 rfl rfl) ?_
                        refine okL_stepU rfl (doesO_storeB (ps := [(tI r82.1)]) 2 [(Ty.own w60), (tI 3), (tI r82.1), (tI 0), (tI 0)] (Item.blk g67 103 [(tI r82.2.N)] :: rowL w60 48 6 VInstr.ty s42 :: Item.blk g41 43 [(Ty.own w60), (tI 3), (tI r82.1), (tI 0), (tI 0)] :: rowL w39 43 5 Block.ty s38.2 :: Item.blk g11 43 [(tL 6 VInstr.ty s12), (tI 1), (tI 0), (tI 1), (tI 0)] :: Item.blk g2 27 [(tI a1), (tI s3), (Ty.own w39)] :: Item.blk g1 27 [(tI 0), (tI 0), (Ty.val (.slice none 0 0))] :: L) rfl rfl (part_one (one_i _)) Tryd.sizeOf3 rfl rfl rfl rfl ?_)
                        refine okL_nil ?_
                        refine okX_block_normal ?_
                        exact okX_meet (I := _) ((r82.2.N, 3, r82.1, 0, 0), w60) (smh h72) (cc rfl (cc rfl (cc rfl (cc rfl (cc rfl (cc rfl cn)))))) rfl
                      · replace h72 := cf hb81 h72
                        refine okC_region ?_
                        refine okL_step 111 (pAt g67 0) rfl rfl (does_move rfl) ?_
                        refine okL_step 112 (pAt g2 1) rfl rfl (does_fieldAddrP 1 Tryd.underlying27 rfl Tryd.sizeOf3 rfl rfl) ?_
                        refine okL_step 113 (tI s3) rfl rfl (does_loadB1 Tryd.isAgg3 rfl 5 rfl rfl) ?_
                        obtain ⟨r84, hc85, h72⟩ := bs h72
                        refine okL_stepO 114 rfl rfl (doesO_call0 (rowL w60 48 6 VInstr.ty s42 :: Item.blk g41 43 [(Ty.own w60), (tI 0), (tI 0), (tI 0), (tI 0)] :: rowL w39 43 5 Block.ty s38.2 :: Item.blk g11 43 [(tL 6 VInstr.ty s12), (tI 1), (tI 0), (tI 1), (tI 0)] :: Item.blk g2 27 [(tI a1), (tI s3), (Ty.own w39)] :: Item.blk g1 27 [(tI 0), (tI 0), (Ty.val (.slice none 0 0))] :: L) (c_keep2_Digits_Next r73.2 s3 g67 r84 hc85) rfl Tryd.call74 rfl (pm 0 rfl (pr _)) (fun _ => ?_))
                        refine okL_step 115 (pAt g67 0) rfl rfl (does_move rfl) ?_
                        refine okL_step 116 (tI (w64 (1 + (if 5 < (w64 (Int.tdiv ((a0).length : Int) 6)) then 5 else (w64 (Int.tdiv ((a0).length : Int) 6)))))) rfl rfl (does_move rfl) ?_
                        obtain ⟨r86, hc87, h72⟩ := bs h72
                        refine okL_stepO 117 rfl rfl (doesO_call0 (rowL w60 48 6 VInstr.ty s42 :: Item.blk g41 43 [(Ty.own w60), (tI 0), (tI 0), (tI 0), (tI 0)] :: rowL w39 43 5 Block.ty s38.2 :: Item.blk g11 43 [(tL 6 VInstr.ty s12), (tI 1), (tI 0), (tI 1), (tI 0)] :: Item.blk g2 27 [(tI a1), (tI s3), (Ty.own w39)] :: Item.blk g1 27 [(tI 0), (tI 0), (Ty.val (.slice none 0 0))] :: L) (c_keep2_Digits_Next r84.2 (w64 (1 + (if 5 < (w64 (Int.tdiv ((a0).length : Int) 6)) then 5 else (w64 (Int.tdiv ((a0).length : Int) 6))))) g67 r86 hc87) rfl Tryd.call74 rfl (pm 0 rfl (pr _)) (fun _ => ?_))
                        refine okL_step 118 (tI (w64 (1 + r86.1))) rfl rfl (does_add rfl rfl) ?_
                        refine okL_step 119 (pAt g67 0) rfl rfl (does_move rfl) ?_
                        refine okL_step 120 (tI (w64 (1 + (if 5 < (w64 (Int.tdiv ((a0).length : Int) 6)) then 5 else (w64 (Int.tdiv ((a0).length : Int) 6)))))) rfl rfl (does_move rfl) ?_
                        obtain ⟨r88, hc89, h72⟩ := bs h72
                        refine okL_stepO 121 rfl rfl (doesO_call0 (rowL w60 48 6 VInstr.ty s42 :: Item.blk g41 43 [(Ty.own w60), (tI 0), (tI 0), (tI 0), (tI 0)] :: rowL w39 43 5 Block.ty s38.2 :: Item.blk g11 43 [(tL 6 VInstr.ty s12), (tI 1), (tI 0), (tI 1), (tI 0)] :: Item.blk g2 27 [(tI a1), (tI s3), (Ty.own w39)] :: Item.blk g1 27 [(tI 0), (tI 0), (Ty.val (.slice none 0 0))] :: L) (c_keep2_Digits_Next r86.2 (w64 (1 + (if 5 < (w64 (Int.tdiv ((a0).length : Int) 6)) then 5 else (w64 (Int.tdiv ((a0).length : Int) 6))))) g67 r88 hc89) rfl Tryd.call74 rfl (pm 0 rfl (pr _)) (fun _ => ?_))
                        refine okL_step 122 (tI (w64 (1 + r88.1))) rfl rfl (does_add rfl rfl) ?_
                        refine okL_step 123 (pAt g41 1) rfl rfl (does_fieldAddrP 1 Tryd.underlying43 rfl Tryd.sizeOf3 rfl rfl) ?_
                        refine okL_stepU rfl (doesO_storeB (ps := [(tI 2)]) 2 [(Ty.own w60), (tI 2), (tI 0), (tI 0), (tI 0)] (Item.blk g67 103 [(tI r88.2.N)] :: rowL w60 48 6 VInstr.ty s42 :: Item.blk g41 43 [(Ty.own w60), (tI 2), (tI 0), (tI 0), (tI 0)] :: rowL w39 43 5 Block.ty s38.2 :: Item.blk g11 43 [(tL 6 VInstr.ty s12), (tI 1), (tI 0), (tI 1), (tI 0)] :: Item.blk g2 27 [(tI a1), (tI s3), (Ty.own w39)] :: Item.blk g1 27 [(tI 0), (tI 0), (Ty.val (.slice none 0 0))] :: L) rfl rfl (part_one (one_i _)) Tryd.sizeOf3 rfl rfl rfl rfl ?_)
                        refine okL_step 124 (pAt g41 2) rfl rfl (does_fieldAddrP 2 Tryd.underlying43 rfl Tryd.sizeOf3 rfl rfl) ?_
                        refine okL_stepU rfl (doesO_storeB (ps := [(tI r84.1)]) 2 [(Ty.own w60), (tI 2), (tI r84.1), (tI 0), (tI 0)] (Item.blk g67 103 [(tI r88.2.N)] :: rowL w60 48 6 VInstr.ty s42 :: Item.blk g41 43 [(Ty.own w60), (tI 2), (tI r84.1), (tI 0), (tI 0)] :: rowL w39 43 5 Block.ty s38.2 :: Item.blk g11 43 [(tL 6 VInstr.ty s12), (tI 1), (tI 0), (tI 1), (tI 0)] :: Item.blk g2 27 [(tI a1), (tI s3), (Ty.own w39)] :: Item.blk g1 27 [(tI 0), (tI 0), (Ty.val (.slice none 0 0))] :: L) rfl rfl (part_one (one_i _)) Tryd.sizeOf3 rfl rfl rfl rfl ?_)
                        refine okL_step 125 (pAt g41 3) rfl rfl (does_fieldAddrP 3 Tryd.underlying43 rfl Tryd.sizeOf3 rfl rfl) ?_
                        refine okL_stepU rfl (doesO_storeB (ps := [(tI (w64 (1 + r86.1)))]) 2 [(Ty.own w60), (tI 2), (tI r84.1), (tI (w64 (1 + r86.1))), (tI 0)] (Item.blk g67 103 [(tI r88.2.N)] :: rowL w60 48 6 VInstr.ty s42 :: Item.blk g41 43 [(Ty.own w60), (tI 2), (tI r84.1), (tI (w64 (1 + r86.1))), (tI 0)] :: rowL w39 43 5 Block.ty s38.2 :: Item.blk g11 43 [(tL 6 VInstr.ty s12), (tI 1), (tI 0), (tI 1), (tI 0)] :: Item.blk g2 27 [(tI a1), (tI s3), (Ty.own w39)] :: Item.blk g1 27 [(tI 0), (tI 0), (Ty.val (.slice none 0 0))] :: L) rfl rfl (part_one (one_i _)) Tryd.sizeOf3 rfl rfl rfl rfl ?_)
                        refine okL_step 126 (pAt g41 4) rfl rfl (does_fieldAddrP 4 Tryd.underlying43 rfl Tryd.sizeOf3 rfl rfl) ?_
                        refine okL_stepU rfl (doesO_storeB (ps := [(tI (w64 (1 + r88.1)))]) 2 [(Ty.own w60), (tI 2), (tI r84.1), (tI (w64 (1 + r86.1))), (tI (w64 (1 + r88.1)))] (Item.blk g67 103 [(tI r88.2.N)] :: rowL w60 48 6 VInstr.ty s42 :: Item.blk g41 43 [(Ty.own w60), (tI 2), (tI r84.1), (tI (w64 (1 + r86.1))), (tI (w64 (1 + r88.1)))] :: rowL w39 43 5 Block.ty s38.2 :: Item.blk g11 43 [(tL 6 VInstr.ty s12), (tI 1), (tI 0), (tI 1), (tI 0)] :: Item.blk g2 27 [(tI a1), (tI s3), (Ty.own w39)] :: Item.blk g1 27 [(tI 0), (tI 0), (Ty.val (.slice none 0 0))] :: L) rfl rfl (part_one (one_i _)) Tryd.sizeOf3 rfl rfl rfl rfl ?_)
                        refine okL_nil ?_
                        refine okX_block_normal ?_
                        exact okX_meet (I := _) ((r88.2.N, 2, r84.1, (w64 (1 + r86.1)), (w64 (1 + r88.1))), w60) (smh h72) (cc rfl (cc rfl (cc rfl (cc rfl (cc rfl (cc rfl cn)))))) rfl
                · intro x hx
                  obtain ⟨s68, w69⟩ := x
                  change OkC _ _ _ [(0, (tL 1 lI a0)), (4, (pAt g1 0)), (5, (pAt g2 0)), (6, (tI (w64 (1 + (if 5 < (w64 (Int.tdiv ((a0).length : Int) 6)) then 5 else (w64 (Int.tdiv ((a0).length : Int) 6))))))), (11, (tI s38.1)), (12, (pAt g41 0))] (Item.blk g67 103 [(tI s68.1)] :: rowL w69 48 6 VInstr.ty s42 :: Item.blk g41 43 [(Ty.own w69), (tI s68.2.1), (tI s68.2.2.1), (tI s68.2.2.2.1), (tI s68.2.2.2.2)] :: rowL w39 43 5 Block.ty s38.2 :: Item.blk g11 43 [(tL 6 VInstr.ty s12), (tI 1), (tI 0), (tI 1), (tI 0)] :: Item.blk g2 27 [(tI a1), (tI s3), (Ty.own w39)] :: Item.blk g1 27 [(tI 0), (tI 0), (Ty.val (.slice none 0 0))] :: L)
                  obtain rfl : s68 = z70 := hx.symm
                  replace h := hz71
                  obtain ⟨z92, h94, hz93⟩ := bs h
                  refine okC_meet (X := ((Int × Int × Int) × Value)) (fun x => z92 = x.1) (fun x : ((Int × Int × Int) × Value) => [(0, (tL 1 lI a0)), (4, (pAt g1 0)), (5, (pAt g2 0)), (6, (tI (w64 (1 + (if 5 < (w64 (Int.tdiv ((a0).length : Int) 6)) then 5 else (w64 (Int.tdiv ((a0).length : Int) 6))))))), (11, (tI s38.1)), (12, (pAt g41 0))]) (fun x : ((Int × Int × Int) × Value) => Item.blk g67 103 [(tI s68.1)] :: rowL x.2 48 6 VInstr.ty s42 :: Item.blk g41 43 [(Ty.own x.2), (tI x.1.1), (tI x.1.2.1), (tI x.1.2.2), (tI s68.2.2.2.2)] :: rowL w39 43 5 Block.ty s38.2 :: Item.blk g11 43 [(tL 6 VInstr.ty s12), (tI 1), (tI 0), (tI 1), (tI 0)] :: Item.blk g2 27 [(tI a1), (tI s3), (Ty.own w39)] :: Item.blk g1 27 [(tI 0), (tI 0), (Ty.val (.slice none 0 0))] :: L) ?_ ?_
                  · refine okC_seq ?_
                    refine okC_region ?_
                    refine okL_step 150 (tI s38.1) rfl rfl (does_move rfl) ?_
                    refine okL_step 151 (tI (w64 (1 + (if 5 < (w64 (Int.tdiv ((a0).length : Int) 6)) then 5 else (w64 (Int.tdiv ((a0).length : Int) 6)))))) rfl rfl (does_move rfl) ?_
                    refine okL_step 152 (tI (w64 ((w64 (1 + (if 5 < (w64 (Int.tdiv ((a0).length : Int) 6)) then 5 else (w64 (Int.tdiv ((a0).length : Int) 6))))) - 1))) rfl rfl (does_sub rfl rfl) ?_
                    refine okL_step 153 (tB (s38.1 == (w64 ((w64 (1 + (if 5 < (w64 (Int.tdiv ((a0).length : Int) 6)) then 5 else (w64 (Int.tdiv ((a0).length : Int) 6))))) - 1)))) rfl rfl (does_eql rfl rfl) ?_
                    refine okL_step 154 (tB (s38.1 == (w64 ((w64 (1 + (if 5 < (w64 (Int.tdiv ((a0).length : Int) 6)) then 5 else (w64 (Int.tdiv ((a0).length : Int) 6))))) - 1)))) rfl rfl (does_move rfl) ?_
                    refine okL_meet (X := Bool) 4 (fun x => x = ((s38.1 == (w64 ((w64 (1 + (if 5 < (w64 (Int.tdiv ((a0).length : Int) 6)) then 5 else (w64 (Int.tdiv ((a0).length : Int) 6))))) - 1))) && (s68.2.1 == 1))) (fun x : Bool => [(0, (tL 1 lI a0)), (4, (pAt g1 0)), (5, (pAt g2 0)), (6, (tI (w64 (1 + (if 5 < (w64 (Int.tdiv ((a0).length : Int) 6)) then 5 else (w64 (Int.tdiv ((a0).length : Int) 6))))))), (11, (tI s38.1)), (12, (pAt g41 0)), (158, (tB x))]) (fun x : Bool => Item.blk g67 103 [(tI s68.1)] :: rowL w69 48 6 VInstr.ty s42 :: Item.blk g41 43 [(Ty.own w69), (tI s68.2.1), (tI s68.2.2.1), (tI s68.2.2.2.1), (tI s68.2.2.2.2)] :: rowL w39 43 5 Block.ty s38.2 :: Item.blk g11 43 [(tL 6 VInstr.ty s12), (tI 1), (tI 0), (tI 1), (tI 0)] :: Item.blk g2 27 [(tI a1), (tI s3), (Ty.own w39)] :: Item.blk g1 27 [(tI 0), (tI 0), (Ty.val (.slice none 0 0))] :: L) _ rfl ?_ ?_
                    · refine okL_split (s38.1 == (w64 ((w64 (1 + (if 5 < (w64 (Int.tdiv ((a0).length : Int) 6)) then 5 else (w64 (Int.tdiv ((a0).length : Int) 6))))) - 1))) (fun hb95 => ?_) (fun hb95 => ?_)
                      · refine okL_guard 155 (pAt g41 1) 154 (s38.1 == (w64 ((w64 (1 + (if 5 < (w64 (Int.tdiv ((a0).length : Int) 6)) then 5 else (w64 (Int.tdiv ((a0).length : Int) 6))))) - 1))) rfl rfl hb95 rfl rfl (does_fieldAddrP 1 Tryd.underlying43 rfl Tryd.sizeOf3 rfl rfl) ?_
                        refine okL_guard 156 (tI s68.2.1) 154 (s38.1 == (w64 ((w64 (1 + (if 5 < (w64 (Int.tdiv ((a0).length : Int) 6)) then 5 else (w64 (Int.tdiv ((a0).length : Int) 6))))) - 1))) rfl rfl hb95 rfl rfl (does_loadB1 Tryd.isAgg3 rfl 2 rfl rfl) ?_
                        refine okL_guard 157 (tB (s68.2.1 == 1)) 154 (s38.1 == (w64 ((w64 (1 + (if 5 < (w64 (Int.tdiv ((a0).length : Int) 6)) then 5 else (w64 (Int.tdiv ((a0).length : Int) 6))))) - 1))) rfl rfl hb95 rfl rfl (does_eql rfl rfl) ?_
                        refine okL_step 158 (tB (s68.2.1 == 1)) rfl rfl (does_pick_t (s38.1 == (w64 ((w64 (1 + (if 5 < (w64 (Int.tdiv ((a0).length : Int) 6)) then 5 else (w64 (Int.tdiv ((a0).length : Int) 6))))) - 1))) rfl hb95 rfl) ?_
                        refine okL_nil ?_
                        exact okX_meet (I := _) (s68.2.1 == 1) (and_t hb95) (cc rfl (cc rfl (cc rfl (cc rfl (cc rfl (cc rfl (cc rfl cn))))))) rfl
                      · refine okL_skip 155 154 (s38.1 == (w64 ((w64 (1 + (if 5 < (w64 (Int.tdiv ((a0).length : Int) 6)) then 5 else (w64 (Int.tdiv ((a0).length : Int) 6))))) - 1))) rfl rfl hb95 rfl rfl ?_
                        refine okL_skip 156 154 (s38.1 == (w64 ((w64 (1 + (if 5 < (w64 (Int.tdiv ((a0).length : Int) 6)) then 5 else (w64 (Int.tdiv ((a0).length : Int) 6))))) - 1))) rfl rfl hb95 rfl rfl ?_
                        refine okL_skip 157 154 (s38.1 == (w64 ((w64 (1 + (if 5 < (w64 (Int.tdiv ((a0).length : Int) 6)) then 5 else (w64 (Int.tdiv ((a0).length : Int) 6))))) - 1))) rfl rfl hb95 rfl rfl ?_
                        refine okL_step 158 (tB false) rfl rfl (does_pick_f (s38.1 == (w64 ((w64 (1 + (if 5 < (w64 (Int.tdiv ((a0).length : Int) 6)) then 5 else (w64 (Int.tdiv ((a0).length : Int) 6))))) - 1))) rfl hb95 rfl) ?_
                        refine okL_nil ?_
                        exact okX_meet (I := _) false (and_f hb95) (cc rfl (cc rfl (cc rfl (cc rfl (cc rfl (cc rfl (cc rfl cn))))))) rfl
                    · intro x97 hx
                      subst hx
                      change OkL _ _ _ _ [(0, (tL 1 lI a0)), (4, (pAt g1 0)), (5, (pAt g2 0)), (6, (tI (w64 (1 + (if 5 < (w64 (Int.tdiv ((a0).length : Int) 6)) then 5 else (w64 (Int.tdiv ((a0).length : Int) 6))))))), (11, (tI s38.1)), (12, (pAt g41 0)), (158, (tB ((s38.1 == (w64 ((w64 (1 + (if 5 < (w64 (Int.tdiv ((a0).length : Int) 6)) then 5 else (w64 (Int.tdiv ((a0).length : Int) 6))))) - 1))) && (s68.2.1 == 1))))] (Item.blk g67 103 [(tI s68.1)] :: rowL w69 48 6 VInstr.ty s42 :: Item.blk g41 43 [(Ty.own w69), (tI s68.2.1), (tI s68.2.2.1), (tI s68.2.2.2.1), (tI s68.2.2.2.2)] :: rowL w39 43 5 Block.ty s38.2 :: Item.blk g11 43 [(tL 6 VInstr.ty s12), (tI 1), (tI 0), (tI 1), (tI 0)] :: Item.blk g2 27 [(tI a1), (tI s3), (Ty.own w39)] :: Item.blk g1 27 [(tI 0), (tI 0), (Ty.val (.slice none 0 0))] :: L)
                      refine okL_nil ?_
                      refine okX_next ?_
                      refine okC_cond (b := ((s38.1 == (w64 ((w64 (1 + (if 5 < (w64 (Int.tdiv ((a0).length : Int) 6)) then 5 else (w64 (Int.tdiv ((a0).length : Int) 6))))) - 1))) && (s68.2.1 == 1))) rfl (fun hb96 => ?_) (fun hb96 => ?_)
                      · replace h94 := ct hb96 h94
                        refine okC_region ?_
                        refine okL_step 159 (pAt g41 1) rfl rfl (does_fieldAddrP 1 Tryd.underlying43 rfl Tryd.sizeOf3 rfl rfl) ?_
                        refine okL_stepU rfl (doesO_storeB (ps := [(tI 3)]) 2 [(Ty.own w69), (tI 3), (tI s68.2.2.1), (tI s68.2.2.2.1), (tI s68.2.2.2.2)] (Item.blk g67 103 [(tI s68.1)] :: rowL w69 48 6 VInstr.ty s42 :: Item.blk g41 43 [(Ty.own w69), (tI 3), (tI s68.2.2.1), (tI s68.2.2.2.1), (tI s68.2.2.2.2)] :: rowL w39 43 5 Block.ty s38.2 :: Item.blk g11 43 [(tL 6 VInstr.ty s12), (tI 1), (tI 0), (tI 1), (tI 0)] :: Item.blk g2 27 [(tI a1), (tI s3), (Ty.own w39)] :: Item.blk g1 27 [(tI 0), (tI 0), (Ty.val (.slice none 0 0))] :: L) rfl rfl (part_one (one_i _)) Tryd.sizeOf3 rfl rfl rfl rfl ?_)
                        refine okL_step 160 (pAt g41 3) rfl rfl (does_fieldAddrP 3 Tryd.underlying43 rfl Tryd.sizeOf3 rfl rfl) ?_
                        refine okL_stepU rfl (doesO_storeB (ps := [(tI 0)]) 2 [(Ty.own w69), (tI 3), (tI s68.2.2.1), (tI 0), (tI s68.2.2.2.2)] (Item.blk g67 103 [(tI s68.1)] :: rowL w69 48 6 VInstr.ty s42 :: Item.blk g41 43 [(Ty.own w69), (tI 3), (tI s68.2.2.1), (tI 0), (tI s68.2.2.2.2)] :: rowL w39 43 5 Block.ty s38.2 :: Item.blk g11 43 [(tL 6 VInstr.ty s12), (tI 1), (tI 0), (tI 1), (tI 0)] :: Item.blk g2 27 [(tI a1), (tI s3), (Ty.own w39)] :: Item.blk g1 27 [(tI 0), (tI 0), (Ty.val (.slice none 0 0))] :: L) rfl rfl (part_one (one_i _)) Tryd.sizeOf3 rfl rfl rfl rfl ?_)
                        refine okL_step 161 (pAt g41 2) rfl rfl (does_fieldAddrP 2 Tryd.underlying43 rfl Tryd.sizeOf3 rfl rfl) ?_
                        refine okL_stepU rfl (doesO_storeB (ps := [(tI 0)]) 2 [(Ty.own w69), (tI 3), (tI 0), (tI 0), (tI s68.2.2.2.2)] (Item.blk g67 103 [(tI s68.1)] :: rowL w69 48 6 VInstr.ty s42 :: Item.blk g41 43 [(Ty.own w69), (tI 3), (tI 0), (tI 0), (tI s68.2.2.2.2)] :: rowL w39 43 5 Block.ty s38.2 :: Item.blk g11 43 [(tL 6 VInstr.ty s12), (tI 1), (tI 0), (tI 1), (tI 0)] :: Item.blk g2 27 [(tI a1), (tI s3), (Ty.own w39)] :: Item.blk g1 27 [(tI 0), (tI 0), (Ty.val (.slice none 0 0))] :: L) rfl rfl (part_one (one_i _)) Tryd.sizeOf3 rfl rfl rfl rfl ?_)
                        refine okL_nil ?_
                        exact okX_meet (I := _) ((3, 0, 0), w69) (smh h94) (cc rfl (cc rfl (cc rfl (cc rfl (cc rfl (cc rfl cn)))))) rfl
                      · replace h94 := cf hb96 h94
                        refine okC_skip ?_
                        exact okX_meet (I := _) ((s68.2.1, s68.2.2.1, s68.2.2.2.1), w69) (smh h94) (cc rfl (cc rfl (cc rfl (cc rfl (cc rfl (cc rfl cn)))))) rfl
                  · intro x hx
                    obtain ⟨s90, w91⟩ := x
                    change OkC _ _ _ [(0, (tL 1 lI a0)), (4, (pAt g1 0)), (5, (pAt g2 0)), (6, (tI (w64 (1 + (if 5 < (w64 (Int.tdiv ((a0).length : Int) 6)) then 5 else (w64 (Int.tdiv ((a0).length : Int) 6))))))), (11, (tI s38.1)), (12, (pAt g41 0))] (Item.blk g67 103 [(tI s68.1)] :: rowL w91 48 6 VInstr.ty s42 :: Item.blk g41 43 [(Ty.own w91), (tI s90.1), (tI s90.2.1), (tI s90.2.2), (tI s68.2.2.2.2)] :: rowL w39 43 5 Block.ty s38.2 :: Item.blk g11 43 [(tL 6 VInstr.ty s12), (tI 1), (tI 0), (tI 1), (tI 0)] :: Item.blk g2 27 [(tI a1), (tI s3), (Ty.own w39)] :: Item.blk g1 27 [(tI 0), (tI 0), (Ty.val (.slice none 0 0))] :: L)
                    obtain rfl : s90 = z92 := hx.symm
                    replace h := hz93
                    refine okC_region ?_
                    refine okL_step 162 (pAt g2 2) rfl rfl (does_fieldAddrP 2 Tryd.underlying27 rfl Tryd.sizeOf25 rfl rfl) ?_
                    refine okL_step 163 (Ty.own w39) rfl rfl (does_loadB1 Tryd.isAgg25 rfl 5 rfl rfl) ?_
                    refine okL_publishB 0 [] [(tL 6 VInstr.ty s42), (tI s90.1), (tI s90.2.1), (tI s90.2.2), (tI s68.2.2.2.2)] (pm 1 rfl (pm 1 rfl (pr _))) rfl an rfl ?_
                    refine okL_step 164 (Ty.agg [(tL 6 VInstr.ty s42), (tI s90.1), (tI s90.2.1), (tI s90.2.2), (tI s68.2.2.2.2)]) rfl rfl (does_loadBA [(tL 6 VInstr.ty s42), (tI s90.1), (tI s90.2.1), (tI s90.2.2), (tI s68.2.2.2.2)] Tryd.isAgg43 Tryd.sizeOf43 rfl 0 rfl rfl rfl) ?_
                    refine okL_step 165 (tL 5 Block.ty ([(⟨s42, s90.1, s90.2.1, s90.2.2, s68.2.2.2.2⟩ : Block)] : List Block)) rfl rfl (does_buildSlice (f := Block.ty) ([(⟨s42, s90.1, s90.2.1, s90.2.2, s68.2.2.2.2⟩ : Block)] : List Block) [(tL 6 VInstr.ty s42), (tI s90.1), (tI s90.2.1), (tI s90.2.2), (tI s68.2.2.2.2)] el25 rfl rfl rfl (fc [(tL 6 VInstr.ty s42), (tI s90.1), (tI s90.2.1), (tI s90.2.2), (tI s68.2.2.2.2)] 0 rfl (part_agg _) rfl rfl (fn_ rfl)) rfl (fun _ => rfl)) ?_
                    obtain ⟨l98, ha99, h⟩ := bs h
                    refine okL_stepO 166 rfl rfl (doesO_append (f := Block.ty) (l := s38.2) (m := ([(⟨s42, s90.1, s90.2.1, s90.2.2, s68.2.2.2.2⟩ : Block)] : List Block)) el25 2 l98 (fun v100 => Item.blk g41 43 [(tL 6 VInstr.ty s42), (tI s90.1), (tI s90.2.1), (tI s90.2.2), (tI s68.2.2.2.2)] :: Item.blk g67 103 [(tI s68.1)] :: rowL v100 43 5 Block.ty l98 :: Item.blk g11 43 [(tL 6 VInstr.ty s12), (tI 1), (tI 0), (tI 1), (tI 0)] :: Item.blk g2 27 [(tI a1), (tI s3), (Ty.own w39)] :: Item.blk g1 27 [(tI 0), (tI 0), (Ty.val (.slice none 0 0))] :: L) ha99 rfl rfl rfl (fun _ => rfl) (fun v100 => ?_))
                    refine okL_step 167 (pAt g2 2) rfl rfl (does_fieldAddrP 2 Tryd.underlying27 rfl Tryd.sizeOf25 rfl rfl) ?_
                    refine okL_stepU rfl (doesO_storeB (ps := [(Ty.own v100)]) 4 [(tI a1), (tI s3), (Ty.own v100)] (Item.blk g41 43 [(tL 6 VInstr.ty s42), (tI s90.1), (tI s90.2.1), (tI s90.2.2), (tI s68.2.2.2.2)] :: Item.blk g67 103 [(tI s68.1)] :: rowL v100 43 5 Block.ty l98 :: Item.blk g11 43 [(tL 6 VInstr.ty s12), (tI 1), (tI 0), (tI 1), (tI 0)] :: Item.blk g2 27 [(tI a1), (tI s3), (Ty.own v100)] :: Item.blk g1 27 [(tI 0), (tI 0), (Ty.val (.slice none 0 0))] :: L) rfl rfl (part_one (one_own _)) Tryd.sizeOf25 rfl rfl rfl rfl ?_)
                    refine okL_nil ?_
                    refine okX_block_normal ?_
                    refine okX_next ?_
                    refine okC_region ?_
                    refine okL_step 65 (tI s38.1) rfl rfl (does_move rfl) ?_
                    refine okL_step 66 (tI (w64 (s38.1 + 1))) rfl rfl (does_add rfl rfl) ?_
                    refine okL_step 11 (tI (w64 (s38.1 + 1))) rfl rfl (does_assign rfl) ?_
                    refine okL_nil ?_
                    refine okX_items [Item.blk g41 43 [(tL 6 VInstr.ty s42), (tI s90.1), (tI s90.2.1), (tI s90.2.2), (tI s68.2.2.2.2)], Item.blk g67 103 [(tI s68.1)]] (rowL v100 43 5 Block.ty l98 :: Item.blk g11 43 [(tL 6 VInstr.ty s12), (tI 1), (tI 0), (tI 1), (tI 0)] :: Item.blk g2 27 [(tI a1), (tI s3), (Ty.own v100)] :: Item.blk g1 27 [(tI 0), (tI 0), (Ty.val (.slice none 0 0))] :: L) (pm 0 rfl (pm 0 rfl (pm 0 rfl (pm 0 rfl (pm 0 rfl (pm 0 rfl (pr _))))))) ?_
                    exact okX_again k (Nat.lt_succ_self k) (((w64 (s38.1 + 1)), l98), v100) h (cc rfl (cc rfl (cc rfl (cc rfl (cc rfl cn))))) rfl
          · replace h := cf hb40 h
            refine okC_exit ?_
            refine okX_then_exit ?_
            refine okX_again_exit ?_
            refine okX_block_hit ?_
            exact okX_meet (I := _) (s38.2, w39) (smh h) (cc rfl (cc rfl cn)) rfl
      · intro x hx
        obtain ⟨s33, w34⟩ := x
        change OkX _ _ _ [(4, (pAt g1 0)), (5, (pAt g2 0))] (rowL w34 43 5 Block.ty s33 :: Item.blk g11 43 [(tL 6 VInstr.ty s12), (tI 1), (tI 0), (tI 1), (tI 0)] :: Item.blk g2 27 [(tI a1), (tI s3), (Ty.own w34)] :: Item.blk g1 27 [(tI 0), (tI 0), (Ty.val (.slice none 0 0))] :: L)
        obtain rfl : s33 = z35 := hx.symm
        replace h := hz36
        refine okX_next ?_
        refine okC_seq ?_
        refine okC_region ?_
        refine okL_publishB 2 [] [(tI a1), (tI s3), (tL 5 Block.ty s33)] (pm 0 rfl (pm 1 rfl (pr _))) rfl an rfl ?_
        refine okL_step 168 (Ty.agg [(tI a1), (tI s3), (tL 5 Block.ty s33)]) rfl rfl (does_loadBA [(tI a1), (tI s3), (tL 5 Block.ty s33)] Tryd.isAgg27 Tryd.sizeOf27 rfl 0 rfl rfl rfl) ?_
        refine okL_stepU rfl (doesO_storeB (ps := [(tI a1), (tI s3), (tL 5 Block.ty s33)]) 2 [(tI a1), (tI s3), (tL 5 Block.ty s33)] (Item.blk g2 27 [(tI a1), (tI s3), (tL 5 Block.ty s33)] :: Item.blk g11 43 [(tL 6 VInstr.ty s12), (tI 1), (tI 0), (tI 1), (tI 0)] :: Item.blk g1 27 [(tI a1), (tI s3), (tL 5 Block.ty s33)] :: L) rfl rfl (part_agg _) Tryd.sizeOf27 rfl rfl rfl rfl ?_)
        refine okL_nil ?_
        refine okX_next ?_
        refine okC_ret ?_
        obtain rfl := (smh h).symm
        exact okX_retC () Tryd.results28 rfl 2 rfl Tryd.isAgg27 Tryd.sizeOf27 rfl rfl [Item.blk g2 27 [(tI a1), (tI s3), (tL 5 Block.ty s33)], Item.blk g11 43 [(tL 6 VInstr.ty s12), (tI 1), (tI 0), (tI 1), (tI 0)], Item.blk g1 27 [(tI a1), (tI s3), (tL 5 Block.ty s33)]] (pm 0 rfl (pm 0 rfl (pm 0 rfl (pr _))))

def ref32_LivePoints (K : Nat) (a0 : VFunc) (a1 : Int) : Option (List (List Int)) :=
  (Option.bind (ref32_Valid K a0) (fun r2 => (cnd (((!r2) || (decide (a1 < 0))) || (decide (a1 ≥ ((a0.Blocks).length : Int)))) (some ([] : List (List Int))) (Option.bind (ref32_LiveBlocks K a0) (fun r7 => (Option.bind (idx a0.Blocks a1) (fun y9 => (Option.bind (idx r7.2 a1) (fun y11 => (Option.bind (ref32_livePoints K y9 y11) (fun r13 => (some r13))))))))))))

def vcode_unique_l2 (K : Nat) (s6 : (Int × (List Int))) (y14 : Int) : Nat → Int → Option Int
  | 0, _ => none
  | k + 1, s21 => (Option.bind (cnd (decide (s21 > 0)) (Option.bind (idx s6.2 (w64 (s21 - 1))) (fun y28 => (some (decide (y28 ≥ y14))))) (some false)) (fun x27 => (cnd x27 (vcode_unique_l2 K s6 y14 k (w64 (s21 - 1))) (some s21))))

def vcode_unique_l1 (K : Nat) (a0 : (List Int)) : Nat → (Int × (List Int)) → Option (List Int)
  | 0, _ => none
  | k + 1, s6 => (cnd (decide (s6.1 < ((a0).length : Int))) (Option.bind (Option.bind (idx a0 s6.1) (fun y14 => (Option.bind (vcode_unique_l2 K s6 y14 K ((s6.2).length : Int)) (fun s16 => (Option.bind (cnd (decide (s16 < ((s6.2).length : Int))) (Option.bind (idx s6.2 s16) (fun y36 => (some (y36 == y14)))) (some false)) (fun x35 => (cnd x35 (some s6.2) (Option.bind (app 8 s6.2 ([0] : List Int)) (fun l39 => (Option.bind (subLo l39 (w64 (s16 + 1))) (fun l42 => (guardO (!(l39).isEmpty) (Option.bind (subLo l39 s16) (fun l45 => (guardO (!(l39).isEmpty) (guardO (decide ((w64 (s16 + 1)).toNat ≤ (l39).length) && decide (s16.toNat ≤ (l39).length)) (Option.bind (idx (cpy l39 (w64 (s16 + 1)).toNat s16.toNat) s16) (fun y49 => (some ((cpy l39 (w64 (s16 + 1)).toNat s16.toNat).set s16.toNat y14)))))))))))))))))))) (fun s9 => (vcode_unique_l1 K a0 k ((w64 (s6.1 + 1)), s9)))) (some s6.2))

def vcode_unique (K : Nat) (a0 : (List Int)) : Option (List Int) :=
  (Option.bind (vcode_unique_l1 K a0 K (0, ([] : List Int))) (fun s1 => (some s1)))

theorem c_vcode_unique (K : Nat) (a0 : (List Int)) (r : (List Int)) (h : vcode_unique K a0 = some r) : CallOk Tryd.prog glob 121 [(tL 1 lI a0)] [] Value (fun x : Value => ((Ty.own x), [rowL x 3 1 lI r])) := by
  refine call_of_code Tryd.func121 rfl Tryd.ntmps121 rfl (fun L w => ?_)
  change OkC _ _ _ [(0, (tL 1 lI a0))] (L)
  unfold vcode_unique at h
  refine okC_seq ?_
  refine okC_region ?_
  refine okL_step 2 (Ty.val (.slice none 0 0)) rfl rfl (does_assign rfl) ?_
  refine okL_nil ?_
  refine okX_next ?_
  refine okC_seq ?_
  refine okC_region ?_
  refine okL_step 3 (Ty.val (.slice none 0 0)) rfl rfl (does_assign rfl) ?_
  refine okL_nil ?_
  refine okX_next ?_
  refine okC_seq ?_
  refine okC_seq ?_
  refine okC_region ?_
  refine okL_step 7 (tL 1 lI a0) rfl rfl (does_move rfl) ?_
  refine okL_step 8 (tI ((a0).length : Int)) rfl rfl (does_len (sz := 1) (f := lI) (l := a0) rfl Tryd.underlying31 rfl) ?_
  refine okL_step 9 (tI 0) rfl rfl (does_move rfl) ?_
  refine okL_nil ?_
  refine okX_next ?_
  refine okC_nilrow (sz := 1) lI 3 3 rfl ?_
  obtain ⟨z3, h5, hz4⟩ := bs h
  refine okC_meetE (X := ((List Int) × Value)) (fun x => z3 = x.1) (fun x : ((List Int) × Value) => [(3, (Ty.own x.2))]) (fun x : ((List Int) × Value) => rowL x.2 3 1 lI x.1 :: L) ?_ ?_
  · refine okC_block ?_
    refine okC_loop (X := ((Int × (List Int)) × Value)) (fun k x => vcode_unique_l1 K a0 k x.1 = some z3) (fun x : ((Int × (List Int)) × Value) => [(3, (Ty.own x.2)), (7, (tL 1 lI a0)), (8, (tI ((a0).length : Int))), (9, (tI x.1.1))]) (fun x : ((Int × (List Int)) × Value) => rowL x.2 3 1 lI x.1.2 :: L) K ((0, ([] : List Int)), (.slice none 0 0)) h5 (cc rfl (cc rfl (cc rfl (cc rfl cn)))) rfl (fun k x hI => ?_)
    obtain ⟨s6, w7⟩ := x
    change OkC _ _ _ [(3, (Ty.own w7)), (7, (tL 1 lI a0)), (8, (tI ((a0).length : Int))), (9, (tI s6.1))] (rowL w7 3 1 lI s6.2 :: L)
    cases k with
    | zero => exact (nz hI).elim
    | succ k =>
      have h : vcode_unique_l1 K a0 (k + 1) s6 = some z3 := hI
      rw [vcode_unique_l1.eq_2] at h
      refine okC_seq ?_
      refine okC_region ?_
      refine okL_step 10 (tB (decide (s6.1 < ((a0).length : Int)))) rfl rfl (does_lss rfl rfl) ?_
      refine okL_nil ?_
      refine okX_next ?_
      refine okC_seq ?_
      refine okC_cond (b := (decide (s6.1 < ((a0).length : Int)))) rfl (fun hb8 => ?_) (fun hb8 => ?_)
      · replace h := ct hb8 h
        refine okC_skip ?_
        refine okX_next ?_
        obtain ⟨z11, h13, hz12⟩ := bs h
        refine okC_meet (X := ((List Int) × Value)) (fun x => z11 = x.1) (fun x : ((List Int) × Value) => [(3, (Ty.own x.2)), (7, (tL 1 lI a0)), (8, (tI ((a0).length : Int))), (9, (tI s6.1))]) (fun x : ((List Int) × Value) => rowL x.2 3 1 lI x.1 :: L) ?_ ?_
        · refine okC_block ?_
          refine okC_seq ?_
          refine okC_region ?_
          obtain ⟨y14, hi15, h13⟩ := bs h13
          refine okL_step 11 (Ty.ptr [(tI y14)]) rfl rfl (does_index (sz := 1) (f := lI) (l := a0) (n := s6.1) y14 Tryd.underlying31 Tryd.sizeOf3 hi15 rfl rfl) ?_
          refine okL_step 12 (tI y14) rfl rfl (does_load1 Tryd.isAgg3 rfl) ?_
          refine okL_step 5 (tI y14) rfl rfl (does_assign rfl) ?_
          refine okL_nil ?_
          refine okX_next ?_
          refine okC_seq ?_
          refine okC_region ?_
          refine okL_step 13 (Ty.own w7) rfl rfl (does_move rfl) ?_
          refine okL_step 14 (tI ((s6.2).length : Int)) rfl rfl (does_lenR rfl Tryd.underlying31 0 rfl rfl) ?_
          refine okL_step 6 (tI ((s6.2).length : Int)) rfl rfl (does_assign rfl) ?_
          refine okL_nil ?_
          refine okX_next ?_
          obtain ⟨z18, h20, hz19⟩ := bs h13
          refine okC_meet (X := Int) (fun x => z18 = x) (fun x : Int => [(3, (Ty.own w7)), (5, (tI y14)), (6, (tI x)), (7, (tL 1 lI a0)), (8, (tI ((a0).length : Int))), (9, (tI s6.1))]) (fun x : Int => rowL w7 3 1 lI s6.2 :: L) ?_ ?_
          · refine okC_block ?_
            refine okC_loop (X := Int) (fun k x => vcode_unique_l2 K s6 y14 k x = some z18) (fun x : Int => [(3, (Ty.own w7)), (5, (tI y14)), (6, (tI x)), (7, (tL 1 lI a0)), (8, (tI ((a0).length : Int))), (9, (tI s6.1))]) (fun x : Int => rowL w7 3 1 lI s6.2 :: L) K ((s6.2).length : Int) h20 (cc rfl (cc rfl (cc rfl (cc rfl (cc rfl (cc rfl cn)))))) rfl (fun k s21 hI => ?_)
            change OkC _ _ _ [(3, (Ty.own w7)), (5, (tI y14)), (6, (tI s21)), (7, (tL 1 lI a0)), (8, (tI ((a0).length : Int))), (9, (tI s6.1))] (rowL w7 3 1 lI s6.2 :: L)
            cases k with
            | zero => exact (nz hI).elim
            | succ k =>
              have h : vcode_unique_l2 K s6 y14 (k + 1) s21 = some z18 := hI
              rw [vcode_unique_l2.eq_2] at h
              refine okC_seq ?_
              refine okC_seq ?_
              refine okC_region ?_
              refine okL_step 15 (tI s21) rfl rfl (does_move rfl) ?_
              refine okL_step 16 (tB (decide (s21 > 0))) rfl rfl (does_gtr rfl rfl) ?_
              refine okL_step 17 (tB (decide (s21 > 0))) rfl rfl (does_move rfl) ?_
              obtain ⟨z24, h26, hz25⟩ := bs h
              refine okL_meet (X := Bool) 8 (fun x => z24 = x) (fun x : Bool => [(3, (Ty.own w7)), (5, (tI y14)), (6, (tI s21)), (7, (tL 1 lI a0)), (8, (tI ((a0).length : Int))), (9, (tI s6.1)), (25, (tB x))]) (fun x : Bool => rowL w7 3 1 lI s6.2 :: L) _ rfl ?_ ?_
              · refine okL_split (decide (s21 > 0)) (fun hb23 => ?_) (fun hb23 => ?_)
                · replace h26 := ct hb23 h26
                  refine okL_guard 18 (Ty.own w7) 17 (decide (s21 > 0)) rfl rfl hb23 rfl rfl (does_move rfl) ?_
                  refine okL_guard 19 (tI s21) 17 (decide (s21 > 0)) rfl rfl hb23 rfl rfl (does_move rfl) ?_
                  refine okL_guard 20 (tI (w64 (s21 - 1))) 17 (decide (s21 > 0)) rfl rfl hb23 rfl rfl (does_sub rfl rfl) ?_
                  obtain ⟨y28, hi29, h26⟩ := bs h26
                  refine okL_guard 21 (Ty.rptr w7 ((w64 (s21 - 1)).toNat * 1)) 17 (decide (s21 > 0)) rfl rfl hb23 rfl rfl (does_indexR (f := lI) (l := s6.2) (m := (w64 (s21 - 1))) el31 0 y28 hi29 rfl rfl rfl) ?_
                  refine okL_guard 22 (tI y28) 17 (decide (s21 > 0)) rfl rfl hb23 rfl rfl (does_loadR1 (sz := 1) (f := lI) (l := s6.2) 0 y28 0 Tryd.isAgg3 hi29 rfl rfl rfl) ?_
                  refine okL_guard 23 (tI y14) 17 (decide (s21 > 0)) rfl rfl hb23 rfl rfl (does_move rfl) ?_
                  refine okL_guard 24 (tB (decide (y28 ≥ y14))) 17 (decide (s21 > 0)) rfl rfl hb23 rfl rfl (does_geq rfl rfl) ?_
                  refine okL_step 25 (tB (decide (y28 ≥ y14))) rfl rfl (does_pick_t (decide (s21 > 0)) rfl hb23 rfl) ?_
                  refine okL_nil ?_
                  exact okX_meet (I := _) (decide (y28 ≥ y14)) (smh h26) (cc rfl (cc rfl (cc rfl (cc rfl (cc rfl (cc rfl (cc rfl cn))))))) rfl
                · replace h26 := cf hb23 h26
                  refine okL_skip 18 17 (decide (s21 > 0)) rfl rfl hb23 rfl rfl ?_
                  refine okL_skip 19 17 (decide (s21 > 0)) rfl rfl hb23 rfl rfl ?_
                  refine okL_skip 20 17 (decide (s21 > 0)) rfl rfl hb23 rfl rfl ?_
                  refine okL_skip 21 17 (decide (s21 > 0)) rfl rfl hb23 rfl rfl ?_
                  refine okL_skip 22 17 (decide (s21 > 0)) rfl rfl hb23 rfl rfl ?_
                  refine okL_skip 23 17 (decide (s21 > 0)) rfl rfl hb23 rfl rfl ?_
                  refine okL_skip 24 17 (decide (s21 > 0)) rfl rfl hb23 rfl rfl ?_
                  refine okL_step 25 (tB false) rfl rfl (does_pick_f (decide (s21 > 0)) rfl hb23 rfl) ?_
                  refine okL_nil ?_
                  exact okX_meet (I := _) false (smh h26) (cc rfl (cc rfl (cc rfl (cc rfl (cc rfl (cc rfl (cc rfl cn))))))) rfl
              · intro x27 hx
                obtain rfl : x27 = z24 := hx.symm
                replace h := hz25
                change OkL _ _ _ _ [(3, (Ty.own w7)), (5, (tI y14)), (6, (tI s21)), (7, (tL 1 lI a0)), (8, (tI ((a0).length : Int))), (9, (tI s6.1)), (25, (tB x27))] (rowL w7 3 1 lI s6.2 :: L)
                refine okL_nil ?_
                refine okX_next ?_
                refine okC_cond (b := x27) rfl (fun hb30 => ?_) (fun hb30 => ?_)
                · replace h := ct hb30 h
                  refine okC_skip ?_
                  refine okX_next ?_
                  refine okC_block ?_
                  refine okC_region ?_
                  refine okL_step 26 (tI s21) rfl rfl (does_move rfl) ?_
                  refine okL_step 27 (tI (w64 (s21 - 1))) rfl rfl (does_sub rfl rfl) ?_
                  refine okL_step 6 (tI (w64 (s21 - 1))) rfl rfl (does_assign rfl) ?_
                  refine okL_nil ?_
                  refine okX_block_normal ?_
                  exact okX_again k (Nat.lt_succ_self k) (w64 (s21 - 1)) h (cc rfl (cc rfl (cc rfl (cc rfl (cc rfl (cc rfl cn)))))) rfl
                · replace h := cf hb30 h
                  refine okC_exit ?_
                  refine okX_then_exit ?_
                  refine okX_again_exit ?_
                  refine okX_block_hit ?_
                  exact okX_meet (I := _) s21 (smh h) (cc rfl (cc rfl (cc rfl (cc rfl (cc rfl (cc rfl cn)))))) rfl
          · intro s16 hx
            change OkC _ _ _ [(3, (Ty.own w7)), (5, (tI y14)), (6, (tI s16)), (7, (tL 1 lI a0)), (8, (tI ((a0).length : Int))), (9, (tI s6.1))] (rowL w7 3 1 lI s6.2 :: L)
            obtain rfl : s16 = z18 := hx.symm
            replace h13 := hz19
            refine okC_seq ?_
            refine okC_seq ?_
            refine okC_region ?_
            refine okL_step 28 (tI s16) rfl rfl (does_move rfl) ?_
            refine okL_step 29 (Ty.own w7) rfl rfl (does_move rfl) ?_
            refine okL_step 30 (tI ((s6.2).length : Int)) rfl rfl (does_lenR rfl Tryd.underlying31 0 rfl rfl) ?_
            refine okL_step 31 (tB (decide (s16 < ((s6.2).length : Int)))) rfl rfl (does_lss rfl rfl) ?_
            refine okL_step 32 (tB (decide (s16 < ((s6.2).length : Int)))) rfl rfl (does_move rfl) ?_
            obtain ⟨z32, h34, hz33⟩ := bs h13
            refine okL_meet (X := Bool) 7 (fun x => z32 = x) (fun x : Bool => [(3, (Ty.own w7)), (5, (tI y14)), (6, (tI s16)), (7, (tL 1 lI a0)), (8, (tI ((a0).length : Int))), (9, (tI s6.1)), (39, (tB x))]) (fun x : Bool => rowL w7 3 1 lI s6.2 :: L) _ rfl ?_ ?_
            · refine okL_split (decide (s16 < ((s6.2).length : Int))) (fun hb31 => ?_) (fun hb31 => ?_)
              · replace h34 := ct hb31 h34
                refine okL_guard 33 (Ty.own w7) 32 (decide (s16 < ((s6.2).length : Int))) rfl rfl hb31 rfl rfl (does_move rfl) ?_
                refine okL_guard 34 (tI s16) 32 (decide (s16 < ((s6.2).length : Int))) rfl rfl hb31 rfl rfl (does_move rfl) ?_
                obtain ⟨y36, hi37, h34⟩ := bs h34
                refine okL_guard 35 (Ty.rptr w7 (s16.toNat * 1)) 32 (decide (s16 < ((s6.2).length : Int))) rfl rfl hb31 rfl rfl (does_indexR (f := lI) (l := s6.2) (m := s16) el31 0 y36 hi37 rfl rfl rfl) ?_
                refine okL_guard 36 (tI y36) 32 (decide (s16 < ((s6.2).length : Int))) rfl rfl hb31 rfl rfl (does_loadR1 (sz := 1) (f := lI) (l := s6.2) 0 y36 0 Tryd.isAgg3 hi37 rfl rfl rfl) ?_
                refine okL_guard 37 (tI y14) 32 (decide (s16 < ((s6.2).length : Int))) rfl rfl hb31 rfl rfl (does_move rfl) ?_
                refine okL_guard 38 (tB (y36 == y14)) 32 (decide (s16 < ((s6.2).length : Int))) rfl rfl hb31 rfl rfl (does_eql rfl rfl) ?_
                refine okL_step 39 (tB (y36 == y14)) rfl rfl (does_pick_t (decide (s16 < ((s6.2).length : Int))) rfl hb31 rfl) ?_
                refine okL_nil ?_
                exact okX_meet (I := _) (y36 == y14) (smh h34) (cc rfl (cc rfl (cc rfl (cc rfl (cc rfl (cc rfl (cc rfl cn))))))) rfl
              · replace h34 := cf hb31 h34
                refine okL_skip 33 32 (decide (s16 < ((s6.2).length : Int))) rfl rfl hb31 rfl rfl ?_
                refine okL_skip 34 32 (decide (s16 < ((s6.2).length : Int))) rfl rfl hb31 rfl rfl ?_
                refine okL_skip 35 32 (decide (s16 < ((s6.2).length : Int))) rfl rfl hb31 rfl rfl ?_
                refine okL_skip 36 32 (decide (s16 < ((s6.2).length : Int))) rfl rfl hb31 rfl rfl ?_
                refine okL_skip 37 32 (decide (s16 < ((s6.2).length : Int))) rfl rfl hb31 rfl rfl ?_
                refine okL_skip 38 32 (decide (s16 < ((s6.2).length : Int))) rfl rfl hb31 rfl rfl ?_
                refine okL_step 39 (tB false) rfl rfl (does_pick_f (decide (s16 < ((s6.2).length : Int))) rfl hb31 rfl) ?_
                refine okL_nil ?_
                exact okX_meet (I := _) false (smh h34) (cc rfl (cc rfl (cc rfl (cc rfl (cc rfl (cc rfl (cc rfl cn))))))) rfl
            · intro x35 hx
              obtain rfl : x35 = z32 := hx.symm
              replace h13 := hz33
              change OkL _ _ _ _ [(3, (Ty.own w7)), (5, (tI y14)), (6, (tI s16)), (7, (tL 1 lI a0)), (8, (tI ((a0).length : Int))), (9, (tI s6.1)), (39, (tB x35))] (rowL w7 3 1 lI s6.2 :: L)
              refine okL_nil ?_
              refine okX_next ?_
              refine okC_cond (b := x35) rfl (fun hb38 => ?_) (fun hb38 => ?_)
              · replace h13 := ct hb38 h13
                refine okC_exit ?_
                refine okX_then_exit ?_
                refine okX_block_hit ?_
                exact okX_meet (I := _) (s6.2, w7) (smh h13) (cc rfl (cc rfl (cc rfl (cc rfl cn)))) rfl
              · replace h13 := cf hb38 h13
                refine okC_skip ?_
                refine okX_next ?_
                refine okC_seq ?_
                refine okC_region ?_
                refine okL_step 40 (Ty.own w7) rfl rfl (does_move rfl) ?_
                refine okL_step 41 (tL 1 lI ([0] : List Int)) rfl rfl (does_buildSlice (f := lI) ([0] : List Int) [(tI 0)] el31 rfl rfl rfl (fc [(tI 0)] 0 rfl (part_one (one_i _)) rfl rfl (fn_ rfl)) rfl (fun _ => rfl)) ?_
                obtain ⟨l39, ha40, h13⟩ := bs h13
                refine okL_stepO 42 rfl rfl (doesO_append (f := lI) (l := s6.2) (m := ([0] : List Int)) el31 0 l39 (fun v41 => rowL v41 3 1 lI l39 :: L) ha40 rfl rfl rfl (fun _ => rfl) (fun v41 => ?_))
                refine okL_step 3 (Ty.own v41) rfl rfl (does_assign rfl) ?_
                refine okL_nil ?_
                refine okX_next ?_
                refine okC_seq ?_
                refine okC_cov [(3, (Ty.own v41)), (5, (tI y14)), (6, (tI s16)), (7, (tL 1 lI a0)), (8, (tI ((a0).length : Int))), (9, (tI s6.1))] (cc rfl (cc rfl (cc rfl (cc rfl (cc rfl (cc rfl cn)))))) ?_
                obtain ⟨l42, hs43, h13⟩ := bs h13
                obtain ⟨hg44, h13⟩ := gs h13
                obtain ⟨l45, hs46, h13⟩ := bs h13
                obtain ⟨hg47, h13⟩ := gs h13
                refine okC_draw 7 [some (43, (Ty.own v41)), some (44, (tI s16)), some (45, (tI (w64 (s16 + 1)))), some (46, (Ty.srow v41 (w64 (s16 + 1)).toNat)), some (47, (Ty.own v41)), some (48, (tI s16)), some (49, (Ty.srow v41 s16.toNat))] ⟨rowL v41 3 1 lI l39 :: ([] : List Item), rowL v41 3 1 lI l39 :: ([] : List Item), []⟩ [] mixed rfl rfl (by kernel_rfl) rfl (by kernel_rfl) rfl rfl rfl (fun _ h => List.Sublist.subset (.cons_cons _ (List.nil_sublist _)) h) (fun _ h => List.Sublist.subset (.cons_cons _ (List.nil_sublist _)) h) rfl (by kernel_rfl) (.inr ⟨by kernel_rfl, by kernel_rfl⟩) (by kernel_rfl) (by kernel_rfl) (dc (draw_plain rfl (does_move rfl)) (dc (draw_plain rfl (does_move rfl)) (dc (draw_plain rfl (does_add rfl rfl)) (dc (draw_plain rfl (does_subLoR (f := lI) (l := l39) (m := (w64 (s16 + 1))) 0 l42 hs43 hg44 Tryd.underlying31 Tryd.sizeOf3 rfl rfl rfl)) (dc (draw_plain rfl (does_move rfl)) (dc (draw_plain rfl (does_move rfl)) (dc (draw_plain rfl (does_subLoR (f := lI) (l := l39) (m := s16) 0 l45 hs46 hg47 Tryd.underlying31 Tryd.sizeOf3 rfl rfl rfl)) (dn)))))))) ?_
                refine ch_end ?_
                change OkL _ _ _ _ [(43, (Ty.own v41)), (44, (tI s16)), (45, (tI (w64 (s16 + 1)))), (46, (Ty.srow v41 (w64 (s16 + 1)).toNat)), (47, (Ty.own v41)), (48, (tI s16)), (49, (Ty.srow v41 s16.toNat)), (3, (Ty.own v41)), (5, (tI y14)), (6, (tI s16)), (7, (tL 1 lI a0)), (8, (tI ((a0).length : Int))), (9, (tI s6.1))] (rowL v41 3 1 lI l39 :: L)
                obtain ⟨hg48, h13⟩ := gs h13
                refine okL_stepO 50 rfl rfl (doesO_copyR (f := lI) (l := l39) (i := (w64 (s16 + 1)).toNat) (j := s16.toNat) 0 (cpy l39 (w64 (s16 + 1)).toNat s16.toNat) (rowL v41 3 1 lI (cpy l39 (w64 (s16 + 1)).toNat s16.toNat) :: L) rfl hg48 el31 rfl rfl rfl rfl ?_)
                refine okL_nil ?_
                refine okX_next ?_
                refine okC_region ?_
                refine okL_step 51 (Ty.own v41) rfl rfl (does_move rfl) ?_
                refine okL_step 52 (tI s16) rfl rfl (does_move rfl) ?_
                refine okL_step 53 (tI y14) rfl rfl (does_move rfl) ?_
                obtain ⟨y49, hi50, h13⟩ := bs h13
                refine okL_step 54 (Ty.rptr v41 (s16.toNat * 1)) rfl rfl (does_indexR (f := lI) (l := (cpy l39 (w64 (s16 + 1)).toNat s16.toNat)) (m := s16) el31 0 y49 hi50 rfl rfl rfl) ?_
                refine okL_stepU rfl (doesO_storeR (f := lI) (l := (cpy l39 (w64 (s16 + 1)).toNat s16.toNat)) (sz := 1) (ps := [(tI y14)]) (y0 := y49) (y1 := y14) (m := s16) 0 0 ((cpy l39 (w64 (s16 + 1)).toNat s16.toNat).set s16.toNat y14) (rowL v41 3 1 lI ((cpy l39 (w64 (s16 + 1)).toNat s16.toNat).set s16.toNat y14) :: L) rfl rfl (part_one (one_i _)) Tryd.sizeOf3 rfl hi50 rfl rfl rfl rfl rfl ?_)
                refine okL_nil ?_
                refine okX_block_normal ?_
                exact okX_meet (I := _) (((cpy l39 (w64 (s16 + 1)).toNat s16.toNat).set s16.toNat y14), v41) (smh h13) (cc rfl (cc rfl (cc rfl (cc rfl cn)))) rfl
        · intro x hx
          obtain ⟨s9, w10⟩ := x
          change OkC _ _ _ [(3, (Ty.own w10)), (7, (tL 1 lI a0)), (8, (tI ((a0).length : Int))), (9, (tI s6.1))] (rowL w10 3 1 lI s9 :: L)
          obtain rfl : s9 = z11 := hx.symm
          replace h := hz12
          refine okC_region ?_
          refine okL_step 55 (tI (w64 (s6.1 + 1))) rfl rfl (does_add rfl rfl) ?_
          refine okL_step 9 (tI (w64 (s6.1 + 1))) rfl rfl (does_move rfl) ?_
          refine okL_nil ?_
          exact okX_again k (Nat.lt_succ_self k) (((w64 (s6.1 + 1)), s9), w10) h (cc rfl (cc rfl (cc rfl (cc rfl cn)))) rfl
      · replace h := cf hb8 h
        refine okC_exit ?_
        refine okX_then_exit ?_
        refine okX_again_exit ?_
        refine okX_block_hit ?_
        exact okX_meet (I := _) (s6.2, w7) (smh h) (cc rfl cn) rfl
  · intro x hx
    obtain ⟨s1, w2⟩ := x
    change OkX _ _ _ [(3, (Ty.own w2))] (rowL w2 3 1 lI s1 :: L)
    obtain rfl : s1 = z3 := hx.symm
    replace h := hz4
    refine okX_next ?_
    refine okC_seq ?_
    refine okC_region ?_
    refine okL_step 56 (Ty.own w2) rfl rfl (does_move rfl) ?_
    refine okL_step 2 (Ty.own w2) rfl rfl (does_assign rfl) ?_
    refine okL_nil ?_
    refine okX_next ?_
    refine okC_ret ?_
    obtain rfl := (smh h).symm
    exact okX_ret1 w2 Tryd.results121 rfl rfl

theorem d_vcode_unique (K : Nat) (a0 : (List Int)) (r : (List Int)) (h : vcode_unique K a0 = some r) : CallP Tryd.prog glob 121 [(tL 1 lI a0)] (tL 1 lI r) := callP_of_own (c_vcode_unique K a0 r h)

def vcode_Successors (K : Nat) (a0 : Block) : Option (List Int) :=
  (cnd (a0.End == 1) (some ([a0.Target] : List Int)) (cnd (a0.End == 2) (Option.bind (vcode_unique K ([a0.Target, a0.Else] : List Int)) (fun r4 => (some r4))) (some ([] : List Int))))

theorem c_vcode_Successors (K : Nat) (a0 : Block) (r : (List Int)) (h : vcode_Successors K a0 = some r) : CallP Tryd.prog glob 104 [(Ty.agg [(tL 6 VInstr.ty a0.Instrs), (tI a0.End), (tI a0.Reg), (tI a0.Target), (tI a0.Else)])] (tL 1 lI r) := by
  refine call_of_code Tryd.func104 rfl Tryd.ntmps104 rfl (fun L w => ?_)
  change OkC _ _ _ [(0, (Ty.agg [(tL 6 VInstr.ty a0.Instrs), (tI a0.End), (tI a0.Reg), (tI a0.Target), (tI a0.Else)]))] (L)
  unfold vcode_Successors at h
  refine okC_seq ?_
  refine okC_region ?_
  refine okL_stepO 1 rfl rfl (doesO_box [(tL 6 VInstr.ty a0.Instrs), (tI a0.End), (tI a0.Reg), (tI a0.Target), (tI a0.Else)] rfl (part_agg _) (fun g1 => ?_))
  refine okL_step 2 (Ty.val (.slice none 0 0)) rfl rfl (does_assign rfl) ?_
  refine okL_nil ?_
  refine okX_next ?_
  refine okC_seq ?_
  refine okC_seq ?_
  refine okC_region ?_
  refine okL_step 3 (pAt g1 1) rfl rfl (does_fieldAddrP 1 Tryd.underlying43 rfl Tryd.sizeOf3 rfl rfl) ?_
  refine okL_step 4 (tI a0.End) rfl rfl (does_loadB1 Tryd.isAgg3 rfl 0 rfl rfl) ?_
  refine okL_nil ?_
  refine okX_next ?_
  refine okC_block ?_
  refine okC_seq ?_
  refine okC_region ?_
  refine okL_step 6 (tB (a0.End == 1)) rfl rfl (does_eql rfl rfl) ?_
  refine okL_step 5 (tB (a0.End == 1)) rfl rfl (does_assign rfl) ?_
  refine okL_nil ?_
  refine okX_next ?_
  refine okC_cond (b := (a0.End == 1)) rfl (fun hb2 => ?_) (fun hb2 => ?_)
  · replace h := ct hb2 h
    refine okC_seq ?_
    refine okC_region ?_
    refine okL_step 7 (pAt g1 3) rfl rfl (does_fieldAddrP 3 Tryd.underlying43 rfl Tryd.sizeOf3 rfl rfl) ?_
    refine okL_step 8 (tI a0.Target) rfl rfl (does_loadB1 Tryd.isAgg3 rfl 0 rfl rfl) ?_
    refine okL_step 9 (tL 1 lI ([a0.Target] : List Int)) rfl rfl (does_buildSlice (f := lI) ([a0.Target] : List Int) [(tI a0.Target)] el31 rfl rfl rfl (fc [(tI a0.Target)] 0 rfl (part_one (one_i _)) rfl rfl (fn_ rfl)) rfl (fun _ => rfl)) ?_
    refine okL_step 2 (tL 1 lI ([a0.Target] : List Int)) rfl rfl (does_assign rfl) ?_
    refine okL_nil ?_
    refine okX_next ?_
    refine okC_ret ?_
    refine okX_block_ret ?_
    refine okX_then_ret ?_
    obtain rfl := (smh h).symm
    refine okX_items [Item.blk g1 43 [(tL 6 VInstr.ty a0.Instrs), (tI a0.End), (tI a0.Reg), (tI a0.Target), (tI a0.Else)]] (L) (pm 0 rfl (pr _)) ?_
    exact okX_ret1 () Tryd.results104 rfl rfl
  · replace h := cf hb2 h
    refine okC_seq ?_
    refine okC_region ?_
    refine okL_step 11 (tB (a0.End == 2)) rfl rfl (does_eql rfl rfl) ?_
    refine okL_step 10 (tB (a0.End == 2)) rfl rfl (does_assign rfl) ?_
    refine okL_nil ?_
    refine okX_next ?_
    refine okC_cond (b := (a0.End == 2)) rfl (fun hb3 => ?_) (fun hb3 => ?_)
    · replace h := ct hb3 h
      refine okC_seq ?_
      refine okC_region ?_
      refine okL_step 12 (pAt g1 3) rfl rfl (does_fieldAddrP 3 Tryd.underlying43 rfl Tryd.sizeOf3 rfl rfl) ?_
      refine okL_step 13 (tI a0.Target) rfl rfl (does_loadB1 Tryd.isAgg3 rfl 0 rfl rfl) ?_
      refine okL_step 14 (pAt g1 4) rfl rfl (does_fieldAddrP 4 Tryd.underlying43 rfl Tryd.sizeOf3 rfl rfl) ?_
      refine okL_step 15 (tI a0.Else) rfl rfl (does_loadB1 Tryd.isAgg3 rfl 0 rfl rfl) ?_
      refine okL_step 16 (tL 1 lI ([a0.Target, a0.Else] : List Int)) rfl rfl (does_buildSlice (f := lI) ([a0.Target, a0.Else] : List Int) [(tI a0.Target), (tI a0.Else)] el31 rfl rfl rfl (fc [(tI a0.Target)] 0 rfl (part_one (one_i _)) rfl rfl (fc [(tI a0.Else)] 1 rfl (part_one (one_i _)) rfl rfl (fn_ rfl))) rfl (fun _ => rfl)) ?_
      obtain ⟨r4, hc5, h⟩ := bs h
      refine okL_step 17 (tL 1 lI r4) rfl rfl (does_call0 (d_vcode_unique K ([a0.Target, a0.Else] : List Int) r4 hc5) rfl Tryd.call121 rfl) ?_
      refine okL_step 2 (tL 1 lI r4) rfl rfl (does_assign rfl) ?_
      refine okL_nil ?_
      refine okX_next ?_
      refine okC_ret ?_
      refine okX_block_ret ?_
      refine okX_then_ret ?_
      obtain rfl := (smh h).symm
      refine okX_items [Item.blk g1 43 [(tL 6 VInstr.ty a0.Instrs), (tI a0.End), (tI a0.Reg), (tI a0.Target), (tI a0.Else)]] (L) (pm 0 rfl (pr _)) ?_
      exact okX_ret1 () Tryd.results104 rfl rfl
    · replace h := cf hb3 h
      refine okC_skip ?_
      refine okX_block_normal ?_
      refine okX_next ?_
      refine okC_seq ?_
      refine okC_region ?_
      refine okL_step 2 (Ty.val (.slice none 0 0)) rfl rfl (does_assign rfl) ?_
      refine okL_nil ?_
      refine okX_next ?_
      refine okC_ret ?_
      obtain rfl := (smh h).symm
      refine okX_sub 2 (tL 1 lI ([] : List Int)) rfl (sub_nil _) ?_
      refine okX_items [Item.blk g1 43 [(tL 6 VInstr.ty a0.Instrs), (tI a0.End), (tI a0.Reg), (tI a0.Target), (tI a0.Else)]] (L) (pm 0 rfl (pr _)) ?_
      exact okX_ret1 () Tryd.results104 rfl rfl

def vcode_Reads (K : Nat) (a0 : VInstr) : Option (List Int) :=
  (Option.bind (vcode_allowed a0.Instr.Op) (fun r2 => (cnd (!r2) (some ([] : List Int)) (Option.bind (machine_Info a0.Instr.Op) (fun r5 => (Option.bind (cnd r5.1.ReadsA (Option.bind (app 8 ([] : List Int) ([a0.Instr.A] : List Int)) (fun l14 => (some l14))) (some ([] : List Int))) (fun s8 => (Option.bind (cnd r5.1.ReadsB (Option.bind (app 8 s8 ([a0.Instr.B] : List Int)) (fun l23 => (some l23))) (some s8)) (fun s17 => (Option.bind (cnd ((a0.Instr.Op == 11) || (a0.Instr.Op == 12)) (Option.bind (app 8 s17 ([a0.Instr.C] : List Int)) (fun l33 => (some l33))) (some s17)) (fun s26 => (Option.bind (cnd (a0.Instr.Op == 6) (Option.bind (app 8 s26 a0.Args) (fun l43 => (some l43))) (some s26)) (fun s37 => (Option.bind (vcode_unique K s37) (fun r46 => (some r46))))))))))))))))

theorem c_vcode_Reads (K : Nat) (a0 : VInstr) (r : (List Int)) (h : vcode_Reads K a0 = some r) : CallOk Tryd.prog glob 95 [(Ty.agg [(tI a0.Instr.Op), (tI a0.Instr.A), (tI a0.Instr.B), (tI a0.Instr.C), (tI a0.Instr.N), (tL 1 lI a0.Args)])] [] Value (fun x : Value => ((Ty.own x), [rowL x 3 1 lI r])) := by
  refine call_of_code Tryd.func95 rfl Tryd.ntmps95 rfl (fun L w => ?_)
  change OkC _ _ _ [(0, (Ty.agg [(tI a0.Instr.Op), (tI a0.Instr.A), (tI a0.Instr.B), (tI a0.Instr.C), (tI a0.Instr.N), (tL 1 lI a0.Args)]))] (L)
  unfold vcode_Reads at h
  refine okC_seq ?_
  refine okC_region ?_
  refine okL_stepO 1 rfl rfl (doesO_box [(tI a0.Instr.Op), (tI a0.Instr.A), (tI a0.Instr.B), (tI a0.Instr.C), (tI a0.Instr.N), (tL 1 lI a0.Args)] rfl (part_agg _) (fun g1 => ?_))
  refine okL_step 2 (Ty.val (.slice none 0 0)) rfl rfl (does_assign rfl) ?_
  refine okL_nil ?_
  refine okX_next ?_
  refine okC_seq ?_
  refine okC_seq ?_
  refine okC_region ?_
  refine okL_step 6 (pAt g1 0) rfl rfl (does_fieldAddrP 0 Tryd.underlying48 rfl Tryd.sizeOf46 rfl rfl) ?_
  refine okL_step 7 (pAt g1 0) rfl rfl (does_fieldAddrP 0 Tryd.underlying46 rfl Tryd.sizeOf3 rfl rfl) ?_
  refine okL_step 8 (tI a0.Instr.Op) rfl rfl (does_loadB1 Tryd.isAgg3 rfl 0 rfl rfl) ?_
  obtain ⟨r2, hc3, h⟩ := bs h
  refine okL_step 9 (tB r2) rfl rfl (does_call0 (c_vcode_allowed a0.Instr.Op r2 hc3) rfl Tryd.call119 rfl) ?_
  refine okL_step 10 (tB (!r2)) rfl rfl (does_not rfl) ?_
  refine okL_nil ?_
  refine okX_next ?_
  refine okC_cond (b := (!r2)) rfl (fun hb4 => ?_) (fun hb4 => ?_)
  · replace h := ct hb4 h
    refine okC_seq ?_
    refine okC_region ?_
    refine okL_step 2 (Ty.val (.slice none 0 0)) rfl rfl (does_assign rfl) ?_
    refine okL_nil ?_
    refine okX_next ?_
    refine okC_ret ?_
    refine okX_then_ret ?_
    obtain rfl := (smh h).symm
    refine okX_nilrow (sz := 1) lI 3 2 rfl ?_
    refine okX_items [Item.blk g1 48 [(tI a0.Instr.Op), (tI a0.Instr.A), (tI a0.Instr.B), (tI a0.Instr.C), (tI a0.Instr.N), (tL 1 lI a0.Args)]] (rowL (.slice none 0 0) 3 1 lI ([] : List Int) :: L) (pm 1 rfl (pm 0 rfl (pr _))) ?_
    exact okX_ret1 (.slice none 0 0) Tryd.results95 rfl rfl
  · replace h := cf hb4 h
    refine okC_skip ?_
    refine okX_next ?_
    refine okC_seq ?_
    refine okC_region ?_
    refine okL_step 12 (pAt g1 0) rfl rfl (does_fieldAddrP 0 Tryd.underlying48 rfl Tryd.sizeOf46 rfl rfl) ?_
    refine okL_step 13 (pAt g1 0) rfl rfl (does_fieldAddrP 0 Tryd.underlying46 rfl Tryd.sizeOf3 rfl rfl) ?_
    refine okL_step 14 (tI a0.Instr.Op) rfl rfl (does_loadB1 Tryd.isAgg3 rfl 0 rfl rfl) ?_
    obtain ⟨r5, hc6, h⟩ := bs h
    refine okL_step 15 (Ty.tup [(Ty.agg [(tS r5.1.Name), (tI r5.1.Form), (tB r5.1.ReadsA), (tB r5.1.WritesA), (tB r5.1.ReadsB), (tB r5.1.MayTrap), (tI r5.1.Words)]), (tB r5.2)]) rfl rfl (does_call0 (c_machine_Info a0.Instr.Op r5 hc6) rfl Tryd.call120 rfl) ?_
    refine okL_step 11 (Ty.tup [(Ty.agg [(tS r5.1.Name), (tI r5.1.Form), (tB r5.1.ReadsA), (tB r5.1.WritesA), (tB r5.1.ReadsB), (tB r5.1.MayTrap), (tI r5.1.Words)]), (tB r5.2)]) rfl rfl (does_move rfl) ?_
    refine okL_step 16 (Ty.agg [(tS r5.1.Name), (tI r5.1.Form), (tB r5.1.ReadsA), (tB r5.1.WritesA), (tB r5.1.ReadsB), (tB r5.1.MayTrap), (tI r5.1.Words)]) rfl rfl (does_extract rfl rfl) ?_
    refine okL_step 17 (tB r5.2) rfl rfl (does_extract rfl rfl) ?_
    refine okL_stepO 3 rfl rfl (doesO_alloc [(tS ⟨#[]⟩), (tI 0), (tB false), (tB false), (tB false), (tB false), (tI 0)] Tryd.zeroValue113 (part_of (sub_agg [(.string ⟨#[]⟩), (.int .i64 0), (.bool false), (.bool false), (.bool false), (.bool false), (.int .i64 0)] rfl) (part_agg _)) (fun g7 => ?_))
    refine okL_stepU rfl (doesO_storeB (ps := [(tS r5.1.Name), (tI r5.1.Form), (tB r5.1.ReadsA), (tB r5.1.WritesA), (tB r5.1.ReadsB), (tB r5.1.MayTrap), (tI r5.1.Words)]) 0 [(tS r5.1.Name), (tI r5.1.Form), (tB r5.1.ReadsA), (tB r5.1.WritesA), (tB r5.1.ReadsB), (tB r5.1.MayTrap), (tI r5.1.Words)] (Item.blk g7 113 [(tS r5.1.Name), (tI r5.1.Form), (tB r5.1.ReadsA), (tB r5.1.WritesA), (tB r5.1.ReadsB), (tB r5.1.MayTrap), (tI r5.1.Words)] :: Item.blk g1 48 [(tI a0.Instr.Op), (tI a0.Instr.A), (tI a0.Instr.B), (tI a0.Instr.C), (tI a0.Instr.N), (tL 1 lI a0.Args)] :: L) rfl rfl (part_agg _) Tryd.sizeOf113 rfl rfl rfl rfl ?_)
    refine okL_step 4 (tB r5.2) rfl rfl (does_assign rfl) ?_
    refine okL_nil ?_
    refine okX_next ?_
    refine okC_seq ?_
    refine okC_region ?_
    refine okL_step 5 (Ty.val (.slice none 0 0)) rfl rfl (does_assign rfl) ?_
    refine okL_nil ?_
    refine okX_next ?_
    refine okC_nilrow (sz := 1) lI 3 5 rfl ?_
    obtain ⟨z10, h12, hz11⟩ := bs h
    refine okC_meet (X := ((List Int) × Value)) (fun x => z10 = x.1) (fun x : ((List Int) × Value) => [(1, (pAt g1 0)), (3, (pAt g7 0)), (5, (Ty.own x.2))]) (fun x : ((List Int) × Value) => rowL x.2 3 1 lI x.1 :: Item.blk g7 113 [(tS r5.1.Name), (tI r5.1.Form), (tB r5.1.ReadsA), (tB r5.1.WritesA), (tB r5.1.ReadsB), (tB r5.1.MayTrap), (tI r5.1.Words)] :: Item.blk g1 48 [(tI a0.Instr.Op), (tI a0.Instr.A), (tI a0.Instr.B), (tI a0.Instr.C), (tI a0.Instr.N), (tL 1 lI a0.Args)] :: L) ?_ ?_
    · refine okC_seq ?_
      refine okC_region ?_
      refine okL_step 18 (pAt g7 2) rfl rfl (does_fieldAddrP 2 Tryd.underlying113 rfl Tryd.sizeOf4 rfl rfl) ?_
      refine okL_step 19 (tB r5.1.ReadsA) rfl rfl (does_loadB1 Tryd.isAgg4 rfl 1 rfl rfl) ?_
      refine okL_nil ?_
      refine okX_next ?_
      refine okC_cond (b := r5.1.ReadsA) rfl (fun hb13 => ?_) (fun hb13 => ?_)
      · replace h12 := ct hb13 h12
        refine okC_region ?_
        refine okL_step 20 (Ty.own (.slice none 0 0)) rfl rfl (does_move rfl) ?_
        refine okL_step 21 (pAt g1 0) rfl rfl (does_fieldAddrP 0 Tryd.underlying48 rfl Tryd.sizeOf46 rfl rfl) ?_
        refine okL_step 22 (pAt g1 1) rfl rfl (does_fieldAddrP 1 Tryd.underlying46 rfl Tryd.sizeOf3 rfl rfl) ?_
        refine okL_step 23 (tI a0.Instr.A) rfl rfl (does_loadB1 Tryd.isAgg3 rfl 2 rfl rfl) ?_
        refine okL_step 24 (tL 1 lI ([a0.Instr.A] : List Int)) rfl rfl (does_buildSlice (f := lI) ([a0.Instr.A] : List Int) [(tI a0.Instr.A)] el31 rfl rfl rfl (fc [(tI a0.Instr.A)] 0 rfl (part_one (one_i _)) rfl rfl (fn_ rfl)) rfl (fun _ => rfl)) ?_
        obtain ⟨l14, ha15, h12⟩ := bs h12
        refine okL_stepO 25 rfl rfl (doesO_append (f := lI) (l := ([] : List Int)) (m := ([a0.Instr.A] : List Int)) el31 0 l14 (fun v16 => rowL v16 3 1 lI l14 :: Item.blk g7 113 [(tS r5.1.Name), (tI r5.1.Form), (tB r5.1.ReadsA), (tB r5.1.WritesA), (tB r5.1.ReadsB), (tB r5.1.MayTrap), (tI r5.1.Words)] :: Item.blk g1 48 [(tI a0.Instr.Op), (tI a0.Instr.A), (tI a0.Instr.B), (tI a0.Instr.C), (tI a0.Instr.N), (tL 1 lI a0.Args)] :: L) ha15 rfl rfl rfl (fun _ => rfl) (fun v16 => ?_))
        refine okL_step 5 (Ty.own v16) rfl rfl (does_assign rfl) ?_
        refine okL_nil ?_
        exact okX_meet (I := _) (l14, v16) (smh h12) (cc rfl (cc rfl (cc rfl cn))) rfl
      · replace h12 := cf hb13 h12
        refine okC_skip ?_
        exact okX_meet (I := _) (([] : List Int), (.slice none 0 0)) (smh h12) (cc rfl (cc rfl (cc rfl cn))) rfl
    · intro x hx
      obtain ⟨s8, w9⟩ := x
      change OkC _ _ _ [(1, (pAt g1 0)), (3, (pAt g7 0)), (5, (Ty.own w9))] (rowL w9 3 1 lI s8 :: Item.blk g7 113 [(tS r5.1.Name), (tI r5.1.Form), (tB r5.1.ReadsA), (tB r5.1.WritesA), (tB r5.1.ReadsB), (tB r5.1.MayTrap), (tI r5.1.Words)] :: Item.blk g1 48 [(tI a0.Instr.Op), (tI a0.Instr.A), (tI a0.Instr.B), (tI a0.Instr.C), (tI a0.Instr.N), (tL 1 lI a0.Args)] :: L)
      obtain rfl : s8 = z10 := hx.symm
      replace h := hz11
      obtain ⟨z19, h21, hz20⟩ := bs h
      refine okC_meet (X := ((List Int) × Value)) (fun x => z19 = x.1) (fun x : ((List Int) × Value) => [(1, (pAt g1 0)), (5, (Ty.own x.2))]) (fun x : ((List Int) × Value) => rowL x.2 3 1 lI x.1 :: Item.blk g7 113 [(tS r5.1.Name), (tI r5.1.Form), (tB r5.1.ReadsA), (tB r5.1.WritesA), (tB r5.1.ReadsB), (tB r5.1.MayTrap), (tI r5.1.Words)] :: Item.blk g1 48 [(tI a0.Instr.Op), (tI a0.Instr.A), (tI a0.Instr.B), (tI a0.Instr.C), (tI a0.Instr.N), (tL 1 lI a0.Args)] :: L) ?_ ?_
      · refine okC_seq ?_
        refine okC_region ?_
        refine okL_step 26 (pAt g7 4) rfl rfl (does_fieldAddrP 4 Tryd.underlying113 rfl Tryd.sizeOf4 rfl rfl) ?_
        refine okL_step 27 (tB r5.1.ReadsB) rfl rfl (does_loadB1 Tryd.isAgg4 rfl 1 rfl rfl) ?_
        refine okL_nil ?_
        refine okX_next ?_
        refine okC_cond (b := r5.1.ReadsB) rfl (fun hb22 => ?_) (fun hb22 => ?_)
        · replace h21 := ct hb22 h21
          refine okC_region ?_
          refine okL_step 28 (Ty.own w9) rfl rfl (does_move rfl) ?_
          refine okL_step 29 (pAt g1 0) rfl rfl (does_fieldAddrP 0 Tryd.underlying48 rfl Tryd.sizeOf46 rfl rfl) ?_
          refine okL_step 30 (pAt g1 2) rfl rfl (does_fieldAddrP 2 Tryd.underlying46 rfl Tryd.sizeOf3 rfl rfl) ?_
          refine okL_step 31 (tI a0.Instr.B) rfl rfl (does_loadB1 Tryd.isAgg3 rfl 2 rfl rfl) ?_
          refine okL_step 32 (tL 1 lI ([a0.Instr.B] : List Int)) rfl rfl (does_buildSlice (f := lI) ([a0.Instr.B] : List Int) [(tI a0.Instr.B)] el31 rfl rfl rfl (fc [(tI a0.Instr.B)] 0 rfl (part_one (one_i _)) rfl rfl (fn_ rfl)) rfl (fun _ => rfl)) ?_
          obtain ⟨l23, ha24, h21⟩ := bs h21
          refine okL_stepO 33 rfl rfl (doesO_append (f := lI) (l := s8) (m := ([a0.Instr.B] : List Int)) el31 0 l23 (fun v25 => rowL v25 3 1 lI l23 :: Item.blk g7 113 [(tS r5.1.Name), (tI r5.1.Form), (tB r5.1.ReadsA), (tB r5.1.WritesA), (tB r5.1.ReadsB), (tB r5.1.MayTrap), (tI r5.1.Words)] :: Item.blk g1 48 [(tI a0.Instr.Op), (tI a0.Instr.A), (tI a0.Instr.B), (tI a0.Instr.C), (tI a0.Instr.N), (tL 1 lI a0.Args)] :: L) ha24 rfl rfl rfl (fun _ => rfl) (fun v25 => ?_))
          refine okL_step 5 (Ty.own v25) rfl rfl (does_assign rfl) ?_
          refine okL_nil ?_
          exact okX_meet (I := _) (l23, v25) (smh h21) (cc rfl (cc rfl cn)) rfl
        · replace h21 := cf hb22 h21
          refine okC_skip ?_
          exact okX_meet (I := _) (s8, w9) (smh h21) (cc rfl (cc rfl cn)) rfl
      · intro x hx
        obtain ⟨s17, w18⟩ := x
        change OkC _ _ _ [(1, (pAt g1 0)), (5, (Ty.own w18))] (rowL w18 3 1 lI s17 :: Item.blk g7 113 [(tS r5.1.Name), (tI r5.1.Form), (tB r5.1.ReadsA), (tB r5.1.WritesA), (tB r5.1.ReadsB), (tB r5.1.MayTrap), (tI r5.1.Words)] :: Item.blk g1 48 [(tI a0.Instr.Op), (tI a0.Instr.A), (tI a0.Instr.B), (tI a0.Instr.C), (tI a0.Instr.N), (tL 1 lI a0.Args)] :: L)
        obtain rfl : s17 = z19 := hx.symm
        replace h := hz20
        obtain ⟨z28, h30, hz29⟩ := bs h
        refine okC_meet (X := ((List Int) × Value)) (fun x => z28 = x.1) (fun x : ((List Int) × Value) => [(1, (pAt g1 0)), (5, (Ty.own x.2))]) (fun x : ((List Int) × Value) => rowL x.2 3 1 lI x.1 :: Item.blk g7 113 [(tS r5.1.Name), (tI r5.1.Form), (tB r5.1.ReadsA), (tB r5.1.WritesA), (tB r5.1.ReadsB), (tB r5.1.MayTrap), (tI r5.1.Words)] :: Item.blk g1 48 [(tI a0.Instr.Op), (tI a0.Instr.A), (tI a0.Instr.B), (tI a0.Instr.C), (tI a0.Instr.N), (tL 1 lI a0.Args)] :: L) ?_ ?_
        · refine okC_seq ?_
          refine okC_region ?_
          refine okL_step 34 (pAt g1 0) rfl rfl (does_fieldAddrP 0 Tryd.underlying48 rfl Tryd.sizeOf46 rfl rfl) ?_
          refine okL_step 35 (pAt g1 0) rfl rfl (does_fieldAddrP 0 Tryd.underlying46 rfl Tryd.sizeOf3 rfl rfl) ?_
          refine okL_step 36 (tI a0.Instr.Op) rfl rfl (does_loadB1 Tryd.isAgg3 rfl 2 rfl rfl) ?_
          refine okL_step 37 (tB (a0.Instr.Op == 11)) rfl rfl (does_eql rfl rfl) ?_
          refine okL_step 38 (tB (a0.Instr.Op == 11)) rfl rfl (does_move rfl) ?_
          refine okL_meet (X := Bool) 5 (fun x => x = ((a0.Instr.Op == 11) || (a0.Instr.Op == 12))) (fun x : Bool => [(1, (pAt g1 0)), (5, (Ty.own w18)), (43, (tB x))]) (fun x : Bool => rowL w18 3 1 lI s17 :: Item.blk g7 113 [(tS r5.1.Name), (tI r5.1.Form), (tB r5.1.ReadsA), (tB r5.1.WritesA), (tB r5.1.ReadsB), (tB r5.1.MayTrap), (tI r5.1.Words)] :: Item.blk g1 48 [(tI a0.Instr.Op), (tI a0.Instr.A), (tI a0.Instr.B), (tI a0.Instr.C), (tI a0.Instr.N), (tL 1 lI a0.Args)] :: L) _ rfl ?_ ?_
          · refine okL_split (a0.Instr.Op == 11) (fun hb31 => ?_) (fun hb31 => ?_)
            · refine okL_skip 39 38 (a0.Instr.Op == 11) rfl rfl hb31 rfl rfl ?_
              refine okL_skip 40 38 (a0.Instr.Op == 11) rfl rfl hb31 rfl rfl ?_
              refine okL_skip 41 38 (a0.Instr.Op == 11) rfl rfl hb31 rfl rfl ?_
              refine okL_skip 42 38 (a0.Instr.Op == 11) rfl rfl hb31 rfl rfl ?_
              refine okL_step 43 (tB true) rfl rfl (does_pick_t (a0.Instr.Op == 11) rfl hb31 rfl) ?_
              refine okL_nil ?_
              exact okX_meet (I := _) true (or_t hb31) (cc rfl (cc rfl (cc rfl cn))) rfl
            · refine okL_guard 39 (pAt g1 0) 38 (a0.Instr.Op == 11) rfl rfl hb31 rfl rfl (does_fieldAddrP 0 Tryd.underlying48 rfl Tryd.sizeOf46 rfl rfl) ?_
              refine okL_guard 40 (pAt g1 0) 38 (a0.Instr.Op == 11) rfl rfl hb31 rfl rfl (does_fieldAddrP 0 Tryd.underlying46 rfl Tryd.sizeOf3 rfl rfl) ?_
              refine okL_guard 41 (tI a0.Instr.Op) 38 (a0.Instr.Op == 11) rfl rfl hb31 rfl rfl (does_loadB1 Tryd.isAgg3 rfl 2 rfl rfl) ?_
              refine okL_guard 42 (tB (a0.Instr.Op == 12)) 38 (a0.Instr.Op == 11) rfl rfl hb31 rfl rfl (does_eql rfl rfl) ?_
              refine okL_step 43 (tB (a0.Instr.Op == 12)) rfl rfl (does_pick_f (a0.Instr.Op == 11) rfl hb31 rfl) ?_
              refine okL_nil ?_
              exact okX_meet (I := _) (a0.Instr.Op == 12) (or_f hb31) (cc rfl (cc rfl (cc rfl cn))) rfl
          · intro x36 hx
            subst hx
            change OkL _ _ _ _ [(1, (pAt g1 0)), (5, (Ty.own w18)), (43, (tB ((a0.Instr.Op == 11) || (a0.Instr.Op == 12))))] (rowL w18 3 1 lI s17 :: Item.blk g7 113 [(tS r5.1.Name), (tI r5.1.Form), (tB r5.1.ReadsA), (tB r5.1.WritesA), (tB r5.1.ReadsB), (tB r5.1.MayTrap), (tI r5.1.Words)] :: Item.blk g1 48 [(tI a0.Instr.Op), (tI a0.Instr.A), (tI a0.Instr.B), (tI a0.Instr.C), (tI a0.Instr.N), (tL 1 lI a0.Args)] :: L)
            refine okL_nil ?_
            refine okX_next ?_
            refine okC_cond (b := ((a0.Instr.Op == 11) || (a0.Instr.Op == 12))) rfl (fun hb32 => ?_) (fun hb32 => ?_)
            · replace h30 := ct hb32 h30
              refine okC_region ?_
              refine okL_step 44 (Ty.own w18) rfl rfl (does_move rfl) ?_
              refine okL_step 45 (pAt g1 0) rfl rfl (does_fieldAddrP 0 Tryd.underlying48 rfl Tryd.sizeOf46 rfl rfl) ?_
              refine okL_step 46 (pAt g1 3) rfl rfl (does_fieldAddrP 3 Tryd.underlying46 rfl Tryd.sizeOf3 rfl rfl) ?_
              refine okL_step 47 (tI a0.Instr.C) rfl rfl (does_loadB1 Tryd.isAgg3 rfl 2 rfl rfl) ?_
              refine okL_step 48 (tL 1 lI ([a0.Instr.C] : List Int)) rfl rfl (does_buildSlice (f := lI) ([a0.Instr.C] : List Int) [(tI a0.Instr.C)] el31 rfl rfl rfl (fc [(tI a0.Instr.C)] 0 rfl (part_one (one_i _)) rfl rfl (fn_ rfl)) rfl (fun _ => rfl)) ?_
              obtain ⟨l33, ha34, h30⟩ := bs h30
              refine okL_stepO 49 rfl rfl (doesO_append (f := lI) (l := s17) (m := ([a0.Instr.C] : List Int)) el31 0 l33 (fun v35 => rowL v35 3 1 lI l33 :: Item.blk g7 113 [(tS r5.1.Name), (tI r5.1.Form), (tB r5.1.ReadsA), (tB r5.1.WritesA), (tB r5.1.ReadsB), (tB r5.1.MayTrap), (tI r5.1.Words)] :: Item.blk g1 48 [(tI a0.Instr.Op), (tI a0.Instr.A), (tI a0.Instr.B), (tI a0.Instr.C), (tI a0.Instr.N), (tL 1 lI a0.Args)] :: L) ha34 rfl rfl rfl (fun _ => rfl) (fun v35 => ?_))
              refine okL_step 5 (Ty.own v35) rfl rfl (does_assign rfl) ?_
              refine okL_nil ?_
              exact okX_meet (I := _) (l33, v35) (smh h30) (cc rfl (cc rfl cn)) rfl
            · replace h30 := cf hb32 h30
              refine okC_skip ?_
              exact okX_meet (I := _) (s17, w18) (smh h30) (cc rfl (cc rfl cn)) rfl
        · intro x hx
          obtain ⟨s26, w27⟩ := x
          change OkC _ _ _ [(1, (pAt g1 0)), (5, (Ty.own w27))] (rowL w27 3 1 lI s26 :: Item.blk g7 113 [(tS r5.1.Name), (tI r5.1.Form), (tB r5.1.ReadsA), (tB r5.1.WritesA), (tB r5.1.ReadsB), (tB r5.1.MayTrap), (tI r5.1.Words)] :: Item.blk g1 48 [(tI a0.Instr.Op), (tI a0.Instr.A), (tI a0.Instr.B), (tI a0.Instr.C), (tI a0.Instr.N), (tL 1 lI a0.Args)] :: L)
          obtain rfl : s26 = z28 := hx.symm
          replace h := hz29
          obtain ⟨z39, h41, hz40⟩ := bs h
          refine okC_meet (X := ((List Int) × Value)) (fun x => z39 = x.1) (fun x : ((List Int) × Value) => [(5, (Ty.own x.2))]) (fun x : ((List Int) × Value) => rowL x.2 3 1 lI x.1 :: Item.blk g7 113 [(tS r5.1.Name), (tI r5.1.Form), (tB r5.1.ReadsA), (tB r5.1.WritesA), (tB r5.1.ReadsB), (tB r5.1.MayTrap), (tI r5.1.Words)] :: Item.blk g1 48 [(tI a0.Instr.Op), (tI a0.Instr.A), (tI a0.Instr.B), (tI a0.Instr.C), (tI a0.Instr.N), (tL 1 lI a0.Args)] :: L) ?_ ?_
          · refine okC_seq ?_
            refine okC_region ?_
            refine okL_step 50 (pAt g1 0) rfl rfl (does_fieldAddrP 0 Tryd.underlying48 rfl Tryd.sizeOf46 rfl rfl) ?_
            refine okL_step 51 (pAt g1 0) rfl rfl (does_fieldAddrP 0 Tryd.underlying46 rfl Tryd.sizeOf3 rfl rfl) ?_
            refine okL_step 52 (tI a0.Instr.Op) rfl rfl (does_loadB1 Tryd.isAgg3 rfl 2 rfl rfl) ?_
            refine okL_step 53 (tB (a0.Instr.Op == 6)) rfl rfl (does_eql rfl rfl) ?_
            refine okL_nil ?_
            refine okX_next ?_
            refine okC_cond (b := (a0.Instr.Op == 6)) rfl (fun hb42 => ?_) (fun hb42 => ?_)
            · replace h41 := ct hb42 h41
              refine okC_region ?_
              refine okL_step 54 (Ty.own w27) rfl rfl (does_move rfl) ?_
              refine okL_step 55 (pAt g1 5) rfl rfl (does_fieldAddrP 5 Tryd.underlying48 rfl Tryd.sizeOf31 rfl rfl) ?_
              refine okL_step 56 (tL 1 lI a0.Args) rfl rfl (does_loadB1 Tryd.isAgg31 rfl 2 rfl rfl) ?_
              obtain ⟨l43, ha44, h41⟩ := bs h41
              refine okL_stepO 57 rfl rfl (doesO_append (f := lI) (l := s26) (m := a0.Args) el31 0 l43 (fun v45 => rowL v45 3 1 lI l43 :: Item.blk g7 113 [(tS r5.1.Name), (tI r5.1.Form), (tB r5.1.ReadsA), (tB r5.1.WritesA), (tB r5.1.ReadsB), (tB r5.1.MayTrap), (tI r5.1.Words)] :: Item.blk g1 48 [(tI a0.Instr.Op), (tI a0.Instr.A), (tI a0.Instr.B), (tI a0.Instr.C), (tI a0.Instr.N), (tL 1 lI a0.Args)] :: L) ha44 rfl rfl rfl (fun _ => rfl) (fun v45 => ?_))
              refine okL_step 5 (Ty.own v45) rfl rfl (does_assign rfl) ?_
              refine okL_nil ?_
              exact okX_meet (I := _) (l43, v45) (smh h41) (cc rfl cn) rfl
            · replace h41 := cf hb42 h41
              refine okC_skip ?_
              exact okX_meet (I := _) (s26, w27) (smh h41) (cc rfl cn) rfl
          · intro x hx
            obtain ⟨s37, w38⟩ := x
            change OkC _ _ _ [(5, (Ty.own w38))] (rowL w38 3 1 lI s37 :: Item.blk g7 113 [(tS r5.1.Name), (tI r5.1.Form), (tB r5.1.ReadsA), (tB r5.1.WritesA), (tB r5.1.ReadsB), (tB r5.1.MayTrap), (tI r5.1.Words)] :: Item.blk g1 48 [(tI a0.Instr.Op), (tI a0.Instr.A), (tI a0.Instr.B), (tI a0.Instr.C), (tI a0.Instr.N), (tL 1 lI a0.Args)] :: L)
            obtain rfl : s37 = z39 := hx.symm
            replace h := hz40
            refine okC_seq ?_
            refine okC_region ?_
            refine okL_step 58 (Ty.own w38) rfl rfl (does_move rfl) ?_
            obtain ⟨r46, hc47, h⟩ := bs h
            refine okL_stepO 59 rfl rfl (doesO_callZ (rowL w38 3 1 lI s37 :: Item.blk g7 113 [(tS r5.1.Name), (tI r5.1.Form), (tB r5.1.ReadsA), (tB r5.1.WritesA), (tB r5.1.ReadsB), (tB r5.1.MayTrap), (tI r5.1.Words)] :: Item.blk g1 48 [(tI a0.Instr.Op), (tI a0.Instr.A), (tI a0.Instr.B), (tI a0.Instr.C), (tI a0.Instr.N), (tL 1 lI a0.Args)] :: L) (c_vcode_unique K s37 r46 hc47) (fun _ => (ex_own _)) (fun _ => (.cons (ex_row exI) ExIts.nil)) rfl Tryd.call121 (.lend 0 rfl rfl ArgLend.nil) (pr _) (fun v48 => ?_))
            refine okL_step 2 (Ty.own v48) rfl rfl (does_assign rfl) ?_
            refine okL_nil ?_
            refine okX_next ?_
            refine okC_ret ?_
            obtain rfl := (smh h).symm
            refine okX_items [rowL w38 3 1 lI s37, Item.blk g7 113 [(tS r5.1.Name), (tI r5.1.Form), (tB r5.1.ReadsA), (tB r5.1.WritesA), (tB r5.1.ReadsB), (tB r5.1.MayTrap), (tI r5.1.Words)], Item.blk g1 48 [(tI a0.Instr.Op), (tI a0.Instr.A), (tI a0.Instr.B), (tI a0.Instr.C), (tI a0.Instr.N), (tL 1 lI a0.Args)]] (rowL v48 3 1 lI r46 :: L) (pm 1 rfl (pm 1 rfl (pm 1 rfl (pm 0 rfl (pr _))))) ?_
            exact okX_ret1 v48 Tryd.results95 rfl rfl

theorem d_vcode_Reads (K : Nat) (a0 : VInstr) (r : (List Int)) (h : vcode_Reads K a0 = some r) : CallP Tryd.prog glob 95 [(Ty.agg [(tI a0.Instr.Op), (tI a0.Instr.A), (tI a0.Instr.B), (tI a0.Instr.C), (tI a0.Instr.N), (tL 1 lI a0.Args)])] (tL 1 lI r) := callP_of_own (c_vcode_Reads K a0 r h)

def liveness_transfer_l1 (K : Nat) (r2 : (List Int)) : Nat → (Int × (List Int)) → Option (List Int)
  | 0, _ => none
  | k + 1, s9 => (cnd (decide (s9.1 < ((r2).length : Int))) (Option.bind (idx r2 s9.1) (fun y12 => (Option.bind (liveness_set_remove s9.2 y12) (fun r14 => (liveness_transfer_l1 K r2 k ((w64 (s9.1 + 1)), r14)))))) (some s9.2))

def liveness_transfer_l2 (K : Nat) (r16 : (List Int)) : Nat → (Int × (List Int)) → Option (List Int)
  | 0, _ => none
  | k + 1, s23 => (cnd (decide (s23.1 < ((r16).length : Int))) (Option.bind (idx r16 s23.1) (fun y26 => (Option.bind (liveness_set_add s23.2 y26) (fun r28 => (liveness_transfer_l2 K r16 k ((w64 (s23.1 + 1)), r28)))))) (some s23.2))

def liveness_transfer (K : Nat) (a0 : (List Int)) (a1 : VInstr) : Option (List Int) :=
  (Option.bind (vcode_Writes a1) (fun r2 => (Option.bind (liveness_transfer_l1 K r2 K (0, a0)) (fun s4 => (Option.bind (vcode_Reads K a1) (fun r16 => (Option.bind (liveness_transfer_l2 K r16 K (0, s4)) (fun s18 => (some s18)))))))))

theorem c_liveness_transfer (K : Nat) (a0 : (List Int)) (a1 : VInstr) (v0 : Value) (r : (List Int)) (h : liveness_transfer K a0 a1 = some r) : CallOk Tryd.prog glob 68 [(Ty.own v0), (Ty.agg [(tI a1.Instr.Op), (tI a1.Instr.A), (tI a1.Instr.B), (tI a1.Instr.C), (tI a1.Instr.N), (tL 1 lI a1.Args)])] [rowL v0 137 1 lU a0] Unit (fun _ : Unit => ((Ty.tup []), [rowL v0 137 1 lU r])) := by
  refine call_of_code Tryd.func68 rfl Tryd.ntmps68 rfl (fun L w => ?_)
  change OkC _ _ _ [(0, (Ty.own v0)), (1, (Ty.agg [(tI a1.Instr.Op), (tI a1.Instr.A), (tI a1.Instr.B), (tI a1.Instr.C), (tI a1.Instr.N), (tL 1 lI a1.Args)]))] (rowL v0 137 1 lU a0 :: L)
  unfold liveness_transfer at h
  refine okC_seq ?_
  refine okC_region ?_
  refine okL_stepO 3 rfl rfl (doesO_box [(tI a1.Instr.Op), (tI a1.Instr.A), (tI a1.Instr.B), (tI a1.Instr.C), (tI a1.Instr.N), (tL 1 lI a1.Args)] rfl (part_agg _) (fun g1 => ?_))
  refine okL_nil ?_
  refine okX_next ?_
  refine okC_seq ?_
  refine okC_seq ?_
  refine okC_region ?_
  refine okL_step 8 (Ty.agg [(tI a1.Instr.Op), (tI a1.Instr.A), (tI a1.Instr.B), (tI a1.Instr.C), (tI a1.Instr.N), (tL 1 lI a1.Args)]) rfl rfl (does_loadBA [(tI a1.Instr.Op), (tI a1.Instr.A), (tI a1.Instr.B), (tI a1.Instr.C), (tI a1.Instr.N), (tL 1 lI a1.Args)] Tryd.isAgg48 Tryd.sizeOf48 rfl 0 rfl rfl rfl) ?_
  obtain ⟨r2, hc3, h⟩ := bs h
  refine okL_step 9 (tL 1 lI r2) rfl rfl (does_call0 (c_vcode_Writes a1 r2 hc3) rfl Tryd.call96 rfl) ?_
  refine okL_step 10 (tI ((r2).length : Int)) rfl rfl (does_len (sz := 1) (f := lI) (l := r2) rfl Tryd.underlying31 rfl) ?_
  refine okL_step 11 (tI 0) rfl rfl (does_move rfl) ?_
  refine okL_nil ?_
  refine okX_next ?_
  obtain ⟨z6, h8, hz7⟩ := bs h
  refine okC_meetE (X := (List Int)) (fun x => z6 = x) (fun x : (List Int) => [(0, (Ty.own v0)), (3, (pAt g1 0))]) (fun x : (List Int) => Item.blk g1 48 [(tI a1.Instr.Op), (tI a1.Instr.A), (tI a1.Instr.B), (tI a1.Instr.C), (tI a1.Instr.N), (tL 1 lI a1.Args)] :: rowL v0 137 1 lU x :: L) ?_ ?_
  · refine okC_block ?_
    refine okC_loop (X := (Int × (List Int))) (fun k x => liveness_transfer_l1 K r2 k x = some z6) (fun x : (Int × (List Int)) => [(0, (Ty.own v0)), (3, (pAt g1 0)), (9, (tL 1 lI r2)), (10, (tI ((r2).length : Int))), (11, (tI x.1))]) (fun x : (Int × (List Int)) => Item.blk g1 48 [(tI a1.Instr.Op), (tI a1.Instr.A), (tI a1.Instr.B), (tI a1.Instr.C), (tI a1.Instr.N), (tL 1 lI a1.Args)] :: rowL v0 137 1 lU x.2 :: L) K (0, a0) h8 (cc rfl (cc rfl (cc rfl (cc rfl (cc rfl cn))))) rfl (fun k s9 hI => ?_)
    change OkC _ _ _ [(0, (Ty.own v0)), (3, (pAt g1 0)), (9, (tL 1 lI r2)), (10, (tI ((r2).length : Int))), (11, (tI s9.1))] (Item.blk g1 48 [(tI a1.Instr.Op), (tI a1.Instr.A), (tI a1.Instr.B), (tI a1.Instr.C), (tI a1.Instr.N), (tL 1 lI a1.Args)] :: rowL v0 137 1 lU s9.2 :: L)
    cases k with
    | zero => exact (nz hI).elim
    | succ k =>
      have h : liveness_transfer_l1 K r2 (k + 1) s9 = some z6 := hI
      rw [liveness_transfer_l1.eq_2] at h
      refine okC_seq ?_
      refine okC_region ?_
      refine okL_step 12 (tB (decide (s9.1 < ((r2).length : Int)))) rfl rfl (does_lss rfl rfl) ?_
      refine okL_nil ?_
      refine okX_next ?_
      refine okC_seq ?_
      refine okC_cond (b := (decide (s9.1 < ((r2).length : Int)))) rfl (fun hb11 => ?_) (fun hb11 => ?_)
      · replace h := ct hb11 h
        refine okC_skip ?_
        refine okX_next ?_
        refine okC_seq ?_
        refine okC_block ?_
        refine okC_seq ?_
        refine okC_region ?_
        obtain ⟨y12, hi13, h⟩ := bs h
        refine okL_step 13 (Ty.ptr [(tI y12)]) rfl rfl (does_index (sz := 1) (f := lI) (l := r2) (n := s9.1) y12 Tryd.underlying31 Tryd.sizeOf3 hi13 rfl rfl) ?_
        refine okL_step 14 (tI y12) rfl rfl (does_load1 Tryd.isAgg3 rfl) ?_
        refine okL_step 5 (tI y12) rfl rfl (does_assign rfl) ?_
        refine okL_nil ?_
        refine okX_next ?_
        refine okC_region ?_
        refine okL_step 15 (Ty.own v0) rfl rfl (does_move rfl) ?_
        refine okL_step 16 (tI y12) rfl rfl (does_move rfl) ?_
        obtain ⟨r14, hc15, h⟩ := bs h
        refine okL_stepO 17 rfl rfl (doesO_call0 (Item.blk g1 48 [(tI a1.Instr.Op), (tI a1.Instr.A), (tI a1.Instr.B), (tI a1.Instr.C), (tI a1.Instr.N), (tL 1 lI a1.Args)] :: L) (c_liveness_set_remove s9.2 y12 v0 r14 hc15) rfl Tryd.call71 rfl (pm 1 rfl (pr _)) (fun _ => ?_))
        refine okL_nil ?_
        refine okX_block_normal ?_
        refine okX_next ?_
        refine okC_region ?_
        refine okL_step 18 (tI (w64 (s9.1 + 1))) rfl rfl (does_add rfl rfl) ?_
        refine okL_step 11 (tI (w64 (s9.1 + 1))) rfl rfl (does_move rfl) ?_
        refine okL_nil ?_
        refine okX_items [] (Item.blk g1 48 [(tI a1.Instr.Op), (tI a1.Instr.A), (tI a1.Instr.B), (tI a1.Instr.C), (tI a1.Instr.N), (tL 1 lI a1.Args)] :: rowL v0 137 1 lU r14 :: L) (pm 1 rfl (pm 0 rfl (pr _))) ?_
        exact okX_again k (Nat.lt_succ_self k) ((w64 (s9.1 + 1)), r14) h (cc rfl (cc rfl (cc rfl (cc rfl (cc rfl cn))))) rfl
      · replace h := cf hb11 h
        refine okC_exit ?_
        refine okX_then_exit ?_
        refine okX_again_exit ?_
        refine okX_block_hit ?_
        exact okX_meet (I := _) s9.2 (smh h) (cc rfl (cc rfl cn)) rfl
  · intro s4 hx
    change OkX _ _ _ [(0, (Ty.own v0)), (3, (pAt g1 0))] (Item.blk g1 48 [(tI a1.Instr.Op), (tI a1.Instr.A), (tI a1.Instr.B), (tI a1.Instr.C), (tI a1.Instr.N), (tL 1 lI a1.Args)] :: rowL v0 137 1 lU s4 :: L)
    obtain rfl : s4 = z6 := hx.symm
    replace h := hz7
    refine okX_next ?_
    refine okC_seq ?_
    refine okC_region ?_
    refine okL_step 19 (Ty.agg [(tI a1.Instr.Op), (tI a1.Instr.A), (tI a1.Instr.B), (tI a1.Instr.C), (tI a1.Instr.N), (tL 1 lI a1.Args)]) rfl rfl (does_loadBA [(tI a1.Instr.Op), (tI a1.Instr.A), (tI a1.Instr.B), (tI a1.Instr.C), (tI a1.Instr.N), (tL 1 lI a1.Args)] Tryd.isAgg48 Tryd.sizeOf48 rfl 0 rfl rfl rfl) ?_
    obtain ⟨r16, hc17, h⟩ := bs h
    refine okL_step 20 (tL 1 lI r16) rfl rfl (does_call0 (d_vcode_Reads K a1 r16 hc17) rfl Tryd.call95 rfl) ?_
    refine okL_step 21 (tI ((r16).length : Int)) rfl rfl (does_len (sz := 1) (f := lI) (l := r16) rfl Tryd.underlying31 rfl) ?_
    refine okL_step 22 (tI 0) rfl rfl (does_move rfl) ?_
    refine okL_nil ?_
    refine okX_next ?_
    obtain ⟨z20, h22, hz21⟩ := bs h
    refine okC_meetE (X := (List Int)) (fun x => z20 = x) (fun x : (List Int) => []) (fun x : (List Int) => Item.blk g1 48 [(tI a1.Instr.Op), (tI a1.Instr.A), (tI a1.Instr.B), (tI a1.Instr.C), (tI a1.Instr.N), (tL 1 lI a1.Args)] :: rowL v0 137 1 lU x :: L) ?_ ?_
    · refine okC_block ?_
      refine okC_loop (X := (Int × (List Int))) (fun k x => liveness_transfer_l2 K r16 k x = some z20) (fun x : (Int × (List Int)) => [(0, (Ty.own v0)), (20, (tL 1 lI r16)), (21, (tI ((r16).length : Int))), (22, (tI x.1))]) (fun x : (Int × (List Int)) => Item.blk g1 48 [(tI a1.Instr.Op), (tI a1.Instr.A), (tI a1.Instr.B), (tI a1.Instr.C), (tI a1.Instr.N), (tL 1 lI a1.Args)] :: rowL v0 137 1 lU x.2 :: L) K (0, s4) h22 (cc rfl (cc rfl (cc rfl (cc rfl cn)))) rfl (fun k s23 hI => ?_)
      change OkC _ _ _ [(0, (Ty.own v0)), (20, (tL 1 lI r16)), (21, (tI ((r16).length : Int))), (22, (tI s23.1))] (Item.blk g1 48 [(tI a1.Instr.Op), (tI a1.Instr.A), (tI a1.Instr.B), (tI a1.Instr.C), (tI a1.Instr.N), (tL 1 lI a1.Args)] :: rowL v0 137 1 lU s23.2 :: L)
      cases k with
      | zero => exact (nz hI).elim
      | succ k =>
        have h : liveness_transfer_l2 K r16 (k + 1) s23 = some z20 := hI
        rw [liveness_transfer_l2.eq_2] at h
        refine okC_seq ?_
        refine okC_region ?_
        refine okL_step 23 (tB (decide (s23.1 < ((r16).length : Int)))) rfl rfl (does_lss rfl rfl) ?_
        refine okL_nil ?_
        refine okX_next ?_
        refine okC_seq ?_
        refine okC_cond (b := (decide (s23.1 < ((r16).length : Int)))) rfl (fun hb25 => ?_) (fun hb25 => ?_)
        · replace h := ct hb25 h
          refine okC_skip ?_
          refine okX_next ?_
          refine okC_seq ?_
          refine okC_block ?_
          refine okC_seq ?_
          refine okC_region ?_
          obtain ⟨y26, hi27, h⟩ := bs h
          refine okL_step 24 (Ty.ptr [(tI y26)]) rfl rfl (does_index (sz := 1) (f := lI) (l := r16) (n := s23.1) y26 Tryd.underlying31 Tryd.sizeOf3 hi27 rfl rfl) ?_
          refine okL_step 25 (tI y26) rfl rfl (does_load1 Tryd.isAgg3 rfl) ?_
          refine okL_step 7 (tI y26) rfl rfl (does_assign rfl) ?_
          refine okL_nil ?_
          refine okX_next ?_
          refine okC_region ?_
          refine okL_step 26 (Ty.own v0) rfl rfl (does_move rfl) ?_
          refine okL_step 27 (tI y26) rfl rfl (does_move rfl) ?_
          obtain ⟨r28, hc29, h⟩ := bs h
          refine okL_stepO 28 rfl rfl (doesO_call0 (Item.blk g1 48 [(tI a1.Instr.Op), (tI a1.Instr.A), (tI a1.Instr.B), (tI a1.Instr.C), (tI a1.Instr.N), (tL 1 lI a1.Args)] :: L) (c_liveness_set_add s23.2 y26 v0 r28 hc29) rfl Tryd.call72 rfl (pm 1 rfl (pr _)) (fun _ => ?_))
          refine okL_nil ?_
          refine okX_block_normal ?_
          refine okX_next ?_
          refine okC_region ?_
          refine okL_step 29 (tI (w64 (s23.1 + 1))) rfl rfl (does_add rfl rfl) ?_
          refine okL_step 22 (tI (w64 (s23.1 + 1))) rfl rfl (does_move rfl) ?_
          refine okL_nil ?_
          refine okX_items [] (Item.blk g1 48 [(tI a1.Instr.Op), (tI a1.Instr.A), (tI a1.Instr.B), (tI a1.Instr.C), (tI a1.Instr.N), (tL 1 lI a1.Args)] :: rowL v0 137 1 lU r28 :: L) (pm 1 rfl (pm 0 rfl (pr _))) ?_
          exact okX_again k (Nat.lt_succ_self k) ((w64 (s23.1 + 1)), r28) h (cc rfl (cc rfl (cc rfl (cc rfl cn)))) rfl
        · replace h := cf hb25 h
          refine okC_exit ?_
          refine okX_then_exit ?_
          refine okX_again_exit ?_
          refine okX_block_hit ?_
          exact okX_meet (I := _) s23.2 (smh h) cn rfl
    · intro s18 hx
      change OkX _ _ _ [] (Item.blk g1 48 [(tI a1.Instr.Op), (tI a1.Instr.A), (tI a1.Instr.B), (tI a1.Instr.C), (tI a1.Instr.N), (tL 1 lI a1.Args)] :: rowL v0 137 1 lU s18 :: L)
      obtain rfl : s18 = z20 := hx.symm
      replace h := hz21
      obtain rfl := (smh h).symm
      refine okX_items [Item.blk g1 48 [(tI a1.Instr.Op), (tI a1.Instr.A), (tI a1.Instr.B), (tI a1.Instr.C), (tI a1.Instr.N), (tL 1 lI a1.Args)]] (rowL v0 137 1 lU s18 :: L) (pm 0 rfl (pm 0 rfl (pr _))) ?_
      exact okX_end0 () Tryd.results68 rfl rfl

end Go.Proofs.YtocfnpnnbmicmaaDoor.Tc
