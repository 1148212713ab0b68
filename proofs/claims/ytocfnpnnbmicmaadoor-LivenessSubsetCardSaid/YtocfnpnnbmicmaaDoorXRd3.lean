/- Written by gen.py: for each Go function a pure Lean function, and that the Go code comes to what it says. -/
import Derived.Test.YtocfnpnnbmicmaaDoorXRd2
set_option linter.unusedVariables false
set_option maxRecDepth 8000
set_option maxHeartbeats 4000000
namespace Go.Proofs.YtocfnpnnbmicmaaDoor.Tc
open Go Go.RowKit

def keep2_VFunc_l1 (K : Nat) (a1 : Int) : Nat → (Int × Int) → Option Int
  | 0, _ => none
  | k + 1, s8 => (cnd (decide (s8.1 < a1)) (keep2_VFunc_l1 K a1 k ((w64 (s8.1 + 1)), (w64 (s8.2 + 1)))) (some s8.2))

def keep2_VFunc_l2 (K : Nat) (a1 : Int) (s3 : Int) : Nat → (Int × (List VInstr)) → Option (List VInstr)
  | 0, _ => none
  | k + 1, s17 => (cnd (decide (s17.1 < s3)) (Option.bind (cnd (decide (s17.1 < a1)) (some 38) (some 13)) (fun s21 => (Option.bind (app 64 s17.2 ([(⟨(⟨s21, s17.1, 0, 0, s17.1⟩ : Instr), []⟩ : VInstr)] : List VInstr)) (fun l27 => (keep2_VFunc_l2 K a1 s3 k ((w64 (s17.1 + 1)), l27)))))) (some s17.2))

def keep2_VFunc_l4 (K : Nat) (a0 : (List Int)) (a1 : Int) (s3 : Int) (s38 : (Int × (List Block))) : Nat → (Int × (List VInstr)) → Option (List VInstr)
  | 0, _ => none
  | k + 1, s47 => (cnd ((decide (s47.1 < 5)) && (decide ((w64 ((w64 (6 * s38.1)) + s47.1)) < ((a0).length : Int)))) (Option.bind (idx a0 (w64 ((w64 (6 * s38.1)) + s47.1))) (fun y51 => (Option.bind (keep2_VInstr K y51 (⟨a1, s3, []⟩ : VFunc)) (fun r53 => (Option.bind (app 64 s47.2 ([r53] : List VInstr)) (fun l55 => (keep2_VFunc_l4 K a0 a1 s3 s38 k ((w64 (s47.1 + 1)), l55)))))))) (some s47.2))

def keep2_VFunc_l3 (K : Nat) (a0 : (List Int)) (a1 : Int) (s3 : Int) : Nat → (Int × (List Block)) → Option (List Block)
  | 0, _ => none
  | k + 1, s38 => (cnd (decide (s38.1 < (w64 (1 + (if 5 < (w64 (Int.tdiv ((a0).length : Int) 6)) then 5 else (w64 (Int.tdiv ((a0).length : Int) 6))))))) (Option.bind (keep2_VFunc_l4 K a0 a1 s3 s38 K (0, ([] : List VInstr))) (fun s42 => (Option.bind (cnd (decide ((w64 ((w64 (6 * s38.1)) + 5)) < ((a0).length : Int))) (Option.bind (idx a0 (w64 ((w64 (6 * s38.1)) + 5))) (fun y65 => (some y65))) (some 0)) (fun s59 => (Option.bind (Option.bind (keep2_Digits_Next (⟨s59⟩ : Fullingkeep2Digits) 6) (fun r73 => (cnd (r73.1 == 0) (Option.bind (keep2_Digits_Next r73.2 (w64 (1 + (if 5 < (w64 (Int.tdiv ((a0).length : Int) 6)) then 5 else (w64 (Int.tdiv ((a0).length : Int) 6)))))) (fun r76 => (some (r76.2.N, 1, 0, (w64 (1 + r76.1)), 0)))) (cnd (r73.1 == 1) (Option.bind (keep2_Digits_Next r73.2 9) (fun r79 => (some (r79.2.N, 4, 0, (w64 (1 + r79.1)), 0)))) (cnd (r73.1 == 2) (Option.bind (keep2_Digits_Next r73.2 s3) (fun r82 => (some (r82.2.N, 3, r82.1, 0, 0)))) (Option.bind (keep2_Digits_Next r73.2 s3) (fun r84 => (Option.bind (keep2_Digits_Next r84.2 (w64 (1 + (if 5 < (w64 (Int.tdiv ((a0).length : Int) 6)) then 5 else (w64 (Int.tdiv ((a0).length : Int) 6)))))) (fun r86 => (Option.bind (keep2_Digits_Next r86.2 (w64 (1 + (if 5 < (w64 (Int.tdiv ((a0).length : Int) 6)) then 5 else (w64 (Int.tdiv ((a0).length : Int) 6)))))) (fun r88 => (some (r88.2.N, 2, r84.1, (w64 (1 + r86.1)), (w64 (1 + r88.1))))))))))))))) (fun s68 => (Option.bind (cnd ((s38.1 == (w64 ((w64 (1 + (if 5 < (w64 (Int.tdiv ((a0).length : Int) 6)) then 5 else (w64 (Int.tdiv ((a0).length : Int) 6))))) - 1))) && (s68.2.1 == 1)) (some (3, 0, 0)) (some (s68.2.1, s68.2.2.1, s68.2.2.2.1))) (fun s90 => (Option.bind (app 56 s38.2 ([(⟨s42, s90.1, s90.2.1, s90.2.2, s68.2.2.2.2⟩ : Block)] : List Block)) (fun l98 => (keep2_VFunc_l3 K a0 a1 s3 k ((w64 (s38.1 + 1)), l98)))))))))))) (some s38.2))

def keep2_VFunc (K : Nat) (a0 : (List Int)) (a1 : Int) : Option VFunc :=
  (Option.bind (keep2_VFunc_l1 K a1 K (0, 9)) (fun s3 => (Option.bind (keep2_VFunc_l2 K a1 s3 K (0, ([] : List VInstr))) (fun s12 => (Option.bind (app 56 [] ([(⟨s12, 1, 0, 1, 0⟩ : Block)] : List Block)) (fun l30 => (Option.bind (keep2_VFunc_l3 K a0 a1 s3 K (0, l30)) (fun s33 => (some (⟨a1, s3, s33⟩ : VFunc))))))))))

theorem c_keep2_VFunc (K : Nat) (a0 : (List Int)) (a1 : Int) (r : VFunc) (h : keep2_VFunc K a0 a1 = some r) : CallP Tryd.prog glob 28 [(tL 1 lI a0), (tI a1)] (Ty.agg [(tI r.Params), (tI r.Regs), (tL 5 Block.ty r.Blocks)]) := by
  refine call_of_code Tryd.func28 rfl Tryd.ntmps28 rfl (fun L w => ?_)
  change OkC _ _ _ [(0, (tL 1 lI a0)), (1, (tI a1))] (L)
  unfold keep2_VFunc at h
  refine okC_seq ?_
  refine okC_region ?_
  refine okL_stepO 4 rfl rfl (doesO_alloc [(tI 0), (tI 0), (Ty.val (.slice none 0 0))] Tryd.zeroValue27 (part_of (sub_agg [(.int .i64 0), (.int .i64 0), (.slice none 0 0)] rfl) (part_agg _)) (fun g1 => ?_))
  refine okL_nil ?_
  refine okX_next ?_
  refine okC_seq ?_
  refine okC_region ?_
  refine okL_step 16 (tI a1) rfl rfl (does_move rfl) ?_
  refine okL_step 17 (Ty.agg [(tI a1), (tI 9), (Ty.val (.slice none 0 0))]) rfl rfl (does_build [(tI a1), (tI 9), (Ty.val (.slice none 0 0))] Tryd.zeroValue27 Tryd.underlying27 (places27 _ Tryd.underlying27) rfl (fc [(tI a1)] 0 rfl (part_one (one_i _)) rfl rfl (fc [(tI 9)] 1 rfl (part_one (one_i _)) rfl rfl (fn_ rfl)))) ?_
  refine okL_stepO 5 rfl rfl (doesO_alloc [(tI 0), (tI 0), (Ty.val (.slice none 0 0))] Tryd.zeroValue27 (part_of (sub_agg [(.int .i64 0), (.int .i64 0), (.slice none 0 0)] rfl) (part_agg _)) (fun g2 => ?_))
  refine okL_stepU rfl (doesO_storeB (ps := [(tI a1), (tI 9), (Ty.val (.slice none 0 0))]) 0 [(tI a1), (tI 9), (Ty.val (.slice none 0 0))] (Item.blk g2 27 [(tI a1), (tI 9), (Ty.val (.slice none 0 0))] :: Item.blk g1 27 [(tI 0), (tI 0), (Ty.val (.slice none 0 0))] :: L) rfl rfl (part_agg _) Tryd.sizeOf27 rfl rfl rfl rfl ?_)
  refine okL_nil ?_
  refine okX_next ?_
  refine okC_seq ?_
  refine okC_region ?_
  refine okL_step 18 (tL 1 lI a0) rfl rfl (does_move rfl) ?_
  refine okL_step 19 (tI ((a0).length : Int)) rfl rfl (does_len (sz := 1) (f := lI) (l := a0) rfl Tryd.underlying31 rfl) ?_
  refine okL_step 20 (tI (w64 (Int.tdiv ((a0).length : Int) 6))) rfl rfl (does_quo (by decide) rfl rfl) ?_
  refine okL_step 21 (tI (if 5 < (w64 (Int.tdiv ((a0).length : Int) 6)) then 5 else (w64 (Int.tdiv ((a0).length : Int) 6)))) rfl rfl (does_min rfl rfl) ?_
  refine okL_step 22 (tI (w64 (1 + (if 5 < (w64 (Int.tdiv ((a0).length : Int) 6)) then 5 else (w64 (Int.tdiv ((a0).length : Int) 6)))))) rfl rfl (does_add rfl rfl) ?_
  refine okL_step 6 (tI (w64 (1 + (if 5 < (w64 (Int.tdiv ((a0).length : Int) 6)) then 5 else (w64 (Int.tdiv ((a0).length : Int) 6)))))) rfl rfl (does_assign rfl) ?_
  refine okL_nil ?_
  refine okX_next ?_
  refine okC_seq ?_
  refine okC_seq ?_
  refine okC_region ?_
  refine okL_step 7 (tI 0) rfl rfl (does_assign rfl) ?_
  refine okL_nil ?_
  refine okX_next ?_
  obtain ⟨z5, h7, hz6⟩ := bs h
  refine okC_meetE (X := Int) (fun x => z5 = x) (fun x : Int => [(0, (tL 1 lI a0)), (1, (tI a1)), (4, (pAt g1 0)), (5, (pAt g2 0)), (6, (tI (w64 (1 + (if 5 < (w64 (Int.tdiv ((a0).length : Int) 6)) then 5 else (w64 (Int.tdiv ((a0).length : Int) 6)))))))]) (fun x : Int => Item.blk g2 27 [(tI a1), (tI x), (Ty.val (.slice none 0 0))] :: Item.blk g1 27 [(tI 0), (tI 0), (Ty.val (.slice none 0 0))] :: L) ?_ ?_
  · refine okC_block ?_
    refine okC_loop (X := (Int × Int)) (fun k x => keep2_VFunc_l1 K a1 k x = some z5) (fun x : (Int × Int) => [(0, (tL 1 lI a0)), (1, (tI a1)), (4, (pAt g1 0)), (5, (pAt g2 0)), (6, (tI (w64 (1 + (if 5 < (w64 (Int.tdiv ((a0).length : Int) 6)) then 5 else (w64 (Int.tdiv ((a0).length : Int) 6))))))), (7, (tI x.1))]) (fun x : (Int × Int) => Item.blk g2 27 [(tI a1), (tI x.2), (Ty.val (.slice none 0 0))] :: Item.blk g1 27 [(tI 0), (tI 0), (Ty.val (.slice none 0 0))] :: L) K (0, 9) h7 (cc rfl (cc rfl (cc rfl (cc rfl (cc rfl (cc rfl cn)))))) rfl (fun k s8 hI => ?_)
    change OkC _ _ _ [(0, (tL 1 lI a0)), (1, (tI a1)), (4, (pAt g1 0)), (5, (pAt g2 0)), (6, (tI (w64 (1 + (if 5 < (w64 (Int.tdiv ((a0).length : Int) 6)) then 5 else (w64 (Int.tdiv ((a0).length : Int) 6))))))), (7, (tI s8.1))] (Item.blk g2 27 [(tI a1), (tI s8.2), (Ty.val (.slice none 0 0))] :: Item.blk g1 27 [(tI 0), (tI 0), (Ty.val (.slice none 0 0))] :: L)
    cases k with
    | zero => exact (nz hI).elim
    | succ k =>
      have h : keep2_VFunc_l1 K a1 (k + 1) s8 = some z5 := hI
      rw [keep2_VFunc_l1.eq_2] at h
      refine okC_seq ?_
      refine okC_seq ?_
      refine okC_region ?_
      refine okL_step 23 (tI s8.1) rfl rfl (does_move rfl) ?_
      refine okL_step 24 (tI a1) rfl rfl (does_move rfl) ?_
      refine okL_step 25 (tB (decide (s8.1 < a1))) rfl rfl (does_lss rfl rfl) ?_
      refine okL_nil ?_
      refine okX_next ?_
      refine okC_cond (b := (decide (s8.1 < a1))) rfl (fun hb10 => ?_) (fun hb10 => ?_)
      · replace h := ct hb10 h
        refine okC_skip ?_
        refine okX_next ?_
        refine okC_seq ?_
        refine okC_block ?_
        refine okC_region ?_
        refine okL_step 28 (pAt g2 1) rfl rfl (does_fieldAddrP 1 Tryd.underlying27 rfl Tryd.sizeOf3 rfl rfl) ?_
        refine okL_step 29 (tI s8.2) rfl rfl (does_loadB1 Tryd.isAgg3 rfl 0 rfl rfl) ?_
        refine okL_step 30 (tI (w64 (s8.2 + 1))) rfl rfl (does_add rfl rfl) ?_
        refine okL_step 31 (pAt g2 1) rfl rfl (does_fieldAddrP 1 Tryd.underlying27 rfl Tryd.sizeOf3 rfl rfl) ?_
        refine okL_stepU rfl (doesO_storeB (ps := [(tI (w64 (s8.2 + 1)))]) 0 [(tI a1), (tI (w64 (s8.2 + 1))), (Ty.val (.slice none 0 0))] (Item.blk g2 27 [(tI a1), (tI (w64 (s8.2 + 1))), (Ty.val (.slice none 0 0))] :: Item.blk g1 27 [(tI 0), (tI 0), (Ty.val (.slice none 0 0))] :: L) rfl rfl (part_one (one_i _)) Tryd.sizeOf3 rfl rfl rfl rfl ?_)
        refine okL_nil ?_
        refine okX_block_normal ?_
        refine okX_next ?_
        refine okC_region ?_
        refine okL_step 26 (tI s8.1) rfl rfl (does_move rfl) ?_
        refine okL_step 27 (tI (w64 (s8.1 + 1))) rfl rfl (does_add rfl rfl) ?_
        refine okL_step 7 (tI (w64 (s8.1 + 1))) rfl rfl (does_assign rfl) ?_
        refine okL_nil ?_
        exact okX_again k (Nat.lt_succ_self k) ((w64 (s8.1 + 1)), (w64 (s8.2 + 1))) h (cc rfl (cc rfl (cc rfl (cc rfl (cc rfl (cc rfl cn)))))) rfl
      · replace h := cf hb10 h
        refine okC_exit ?_
        refine okX_then_exit ?_
        refine okX_again_exit ?_
        refine okX_block_hit ?_
        exact okX_meet (I := _) s8.2 (smh h) (cc rfl (cc rfl (cc rfl (cc rfl (cc rfl cn))))) rfl
  · intro s3 hx
    change OkX _ _ _ [(0, (tL 1 lI a0)), (1, (tI a1)), (4, (pAt g1 0)), (5, (pAt g2 0)), (6, (tI (w64 (1 + (if 5 < (w64 (Int.tdiv ((a0).length : Int) 6)) then 5 else (w64 (Int.tdiv ((a0).length : Int) 6)))))))] (Item.blk g2 27 [(tI a1), (tI s3), (Ty.val (.slice none 0 0))] :: Item.blk g1 27 [(tI 0), (tI 0), (Ty.val (.slice none 0 0))] :: L)
    obtain rfl : s3 = z5 := hx.symm
    replace h := hz6
    refine okX_next ?_
    refine okC_seq ?_
    refine okC_region ?_
    refine okL_stepO 8 rfl rfl (doesO_alloc [(Ty.val (.slice none 0 0)), (tI 0), (tI 0), (tI 0), (tI 0)] Tryd.zeroValue43 (part_of (sub_agg [(.slice none 0 0), (.int .i64 0), (.int .i64 0), (.int .i64 0), (.int .i64 0)] rfl) (part_agg _)) (fun g11 => ?_))
    refine okL_nil ?_
    refine okX_next ?_
    refine okC_seq ?_
    refine okC_seq ?_
    refine okC_region ?_
    refine okL_step 9 (tI 0) rfl rfl (does_assign rfl) ?_
    refine okL_nil ?_
    refine okX_next ?_
    refine okC_nilrowB (sz := 6) VInstr.ty 48 0 0 [(Ty.own (.slice none 0 0)), (tI 0), (tI 0), (tI 0), (tI 0)] (rowL (.slice none 0 0) 48 6 VInstr.ty ([] : List VInstr) :: Item.blk g11 43 [(Ty.own (.slice none 0 0)), (tI 0), (tI 0), (tI 0), (tI 0)] :: Item.blk g2 27 [(tI a1), (tI s3), (Ty.val (.slice none 0 0))] :: Item.blk g1 27 [(tI 0), (tI 0), (Ty.val (.slice none 0 0))] :: L) rfl rfl rfl rfl ?_
    obtain ⟨z14, h16, hz15⟩ := bs h
    refine okC_meetE (X := ((List VInstr) × Value)) (fun x => z14 = x.1) (fun x : ((List VInstr) × Value) => [(0, (tL 1 lI a0)), (4, (pAt g1 0)), (5, (pAt g2 0)), (6, (tI (w64 (1 + (if 5 < (w64 (Int.tdiv ((a0).length : Int) 6)) then 5 else (w64 (Int.tdiv ((a0).length : Int) 6))))))), (8, (pAt g11 0))]) (fun x : ((List VInstr) × Value) => rowL x.2 48 6 VInstr.ty x.1 :: Item.blk g11 43 [(Ty.own x.2), (tI 0), (tI 0), (tI 0), (tI 0)] :: Item.blk g2 27 [(tI a1), (tI s3), (Ty.val (.slice none 0 0))] :: Item.blk g1 27 [(tI 0), (tI 0), (Ty.val (.slice none 0 0))] :: L) ?_ ?_
    · refine okC_block ?_
      refine okC_loop (X := ((Int × (List VInstr)) × Value)) (fun k x => keep2_VFunc_l2 K a1 s3 k x.1 = some z14) (fun x : ((Int × (List VInstr)) × Value) => [(0, (tL 1 lI a0)), (1, (tI a1)), (4, (pAt g1 0)), (5, (pAt g2 0)), (6, (tI (w64 (1 + (if 5 < (w64 (Int.tdiv ((a0).length : Int) 6)) then 5 else (w64 (Int.tdiv ((a0).length : Int) 6))))))), (8, (pAt g11 0)), (9, (tI x.1.1))]) (fun x : ((Int × (List VInstr)) × Value) => rowL x.2 48 6 VInstr.ty x.1.2 :: Item.blk g11 43 [(Ty.own x.2), (tI 0), (tI 0), (tI 0), (tI 0)] :: Item.blk g2 27 [(tI a1), (tI s3), (Ty.val (.slice none 0 0))] :: Item.blk g1 27 [(tI 0), (tI 0), (Ty.val (.slice none 0 0))] :: L) K ((0, ([] : List VInstr)), (.slice none 0 0)) h16 (cc rfl (cc rfl (cc rfl (cc rfl (cc rfl (cc rfl (cc rfl cn))))))) rfl (fun k x hI => ?_)
      obtain ⟨s17, w18⟩ := x
      change OkC _ _ _ [(0, (tL 1 lI a0)), (1, (tI a1)), (4, (pAt g1 0)), (5, (pAt g2 0)), (6, (tI (w64 (1 + (if 5 < (w64 (Int.tdiv ((a0).length : Int) 6)) then 5 else (w64 (Int.tdiv ((a0).length : Int) 6))))))), (8, (pAt g11 0)), (9, (tI s17.1))] (rowL w18 48 6 VInstr.ty s17.2 :: Item.blk g11 43 [(Ty.own w18), (tI 0), (tI 0), (tI 0), (tI 0)] :: Item.blk g2 27 [(tI a1), (tI s3), (Ty.val (.slice none 0 0))] :: Item.blk g1 27 [(tI 0), (tI 0), (Ty.val (.slice none 0 0))] :: L)
      cases k with
      | zero => exact (nz hI).elim
      | succ k =>
        have h : keep2_VFunc_l2 K a1 s3 (k + 1) s17 = some z14 := hI
        rw [keep2_VFunc_l2.eq_2] at h
        refine okC_seq ?_
        refine okC_seq ?_
        refine okC_region ?_
        refine okL_step 32 (tI s17.1) rfl rfl (does_move rfl) ?_
        refine okL_step 33 (pAt g2 1) rfl rfl (does_fieldAddrP 1 Tryd.underlying27 rfl Tryd.sizeOf3 rfl rfl) ?_
        refine okL_step 34 (tI s3) rfl rfl (does_loadB1 Tryd.isAgg3 rfl 2 rfl rfl) ?_
        refine okL_step 35 (tB (decide (s17.1 < s3))) rfl rfl (does_lss rfl rfl) ?_
        refine okL_nil ?_
        refine okX_next ?_
        refine okC_cond (b := (decide (s17.1 < s3))) rfl (fun hb19 => ?_) (fun hb19 => ?_)
        · replace h := ct hb19 h
          refine okC_skip ?_
          refine okX_next ?_
          refine okC_seq ?_
          refine okC_block ?_
          refine okC_seq ?_
          refine okC_region ?_
          refine okL_step 38 (tI s17.1) rfl rfl (does_move rfl) ?_
          refine okL_step 39 (tI s17.1) rfl rfl (does_move rfl) ?_
          refine okL_step 40 (Ty.agg [(tI 13), (tI s17.1), (tI 0), (tI 0), (tI s17.1)]) rfl rfl (does_build [(tI 13), (tI s17.1), (tI 0), (tI 0), (tI s17.1)] Tryd.zeroValue46 Tryd.underlying46 (places46 _ Tryd.underlying46) rfl (fc [(tI 13)] 0 rfl (part_one (one_i _)) rfl rfl (fc [(tI s17.1)] 1 rfl (part_one (one_i _)) rfl rfl (fc [(tI s17.1)] 4 rfl (part_one (one_i _)) rfl rfl (fn_ rfl))))) ?_
          refine okL_stepO 10 rfl rfl (doesO_alloc [(tI 0), (tI 0), (tI 0), (tI 0), (tI 0)] Tryd.zeroValue46 (part_of (sub_agg [(.int .i64 0), (.int .i64 0), (.int .i64 0), (.int .i64 0), (.int .i64 0)] rfl) (part_agg _)) (fun g20 => ?_))
          refine okL_stepU rfl (doesO_storeB (ps := [(tI 13), (tI s17.1), (tI 0), (tI 0), (tI s17.1)]) 0 [(tI 13), (tI s17.1), (tI 0), (tI 0), (tI s17.1)] (Item.blk g20 46 [(tI 13), (tI s17.1), (tI 0), (tI 0), (tI s17.1)] :: rowL w18 48 6 VInstr.ty s17.2 :: Item.blk g11 43 [(Ty.own w18), (tI 0), (tI 0), (tI 0), (tI 0)] :: Item.blk g2 27 [(tI a1), (tI s3), (Ty.val (.slice none 0 0))] :: Item.blk g1 27 [(tI 0), (tI 0), (Ty.val (.slice none 0 0))] :: L) rfl rfl (part_agg _) Tryd.sizeOf46 rfl rfl rfl rfl ?_)
          refine okL_nil ?_
          refine okX_next ?_
          obtain ⟨z23, h25, hz24⟩ := bs h
          refine okC_meet (X := Int) (fun x => z23 = x) (fun x : Int => [(0, (tL 1 lI a0)), (1, (tI a1)), (4, (pAt g1 0)), (5, (pAt g2 0)), (6, (tI (w64 (1 + (if 5 < (w64 (Int.tdiv ((a0).length : Int) 6)) then 5 else (w64 (Int.tdiv ((a0).length : Int) 6))))))), (8, (pAt g11 0)), (9, (tI s17.1)), (10, (pAt g20 0))]) (fun x : Int => Item.blk g20 46 [(tI x), (tI s17.1), (tI 0), (tI 0), (tI s17.1)] :: rowL w18 48 6 VInstr.ty s17.2 :: Item.blk g11 43 [(Ty.own w18), (tI 0), (tI 0), (tI 0), (tI 0)] :: Item.blk g2 27 [(tI a1), (tI s3), (Ty.val (.slice none 0 0))] :: Item.blk g1 27 [(tI 0), (tI 0), (Ty.val (.slice none 0 0))] :: L) ?_ ?_
          · refine okC_seq ?_
            refine okC_region ?_
            refine okL_step 41 (tI s17.1) rfl rfl (does_move rfl) ?_
            refine okL_step 42 (tI a1) rfl rfl (does_move rfl) ?_
            refine okL_step 43 (tB (decide (s17.1 < a1))) rfl rfl (does_lss rfl rfl) ?_
            refine okL_nil ?_
            refine okX_next ?_
            refine okC_cond (b := (decide (s17.1 < a1))) rfl (fun hb26 => ?_) (fun hb26 => ?_)
            · replace h25 := ct hb26 h25
              refine okC_region ?_
              refine okL_step 44 (tI s17.1) rfl rfl (does_move rfl) ?_
              refine okL_step 45 (tI s17.1) rfl rfl (does_move rfl) ?_
              refine okL_step 46 (Ty.agg [(tI 38), (tI s17.1), (tI 0), (tI 0), (tI s17.1)]) rfl rfl (does_build [(tI 38), (tI s17.1), (tI 0), (tI 0), (tI s17.1)] Tryd.zeroValue46 Tryd.underlying46 (places46 _ Tryd.underlying46) rfl (fc [(tI 38)] 0 rfl (part_one (one_i _)) rfl rfl (fc [(tI s17.1)] 1 rfl (part_one (one_i _)) rfl rfl (fc [(tI s17.1)] 4 rfl (part_one (one_i _)) rfl rfl (fn_ rfl))))) ?_
              refine okL_stepU rfl (doesO_storeB (ps := [(tI 38), (tI s17.1), (tI 0), (tI 0), (tI s17.1)]) 0 [(tI 38), (tI s17.1), (tI 0), (tI 0), (tI s17.1)] (Item.blk g20 46 [(tI 38), (tI s17.1), (tI 0), (tI 0), (tI s17.1)] :: rowL w18 48 6 VInstr.ty s17.2 :: Item.blk g11 43 [(Ty.own w18), (tI 0), (tI 0), (tI 0), (tI 0)] :: Item.blk g2 27 [(tI a1), (tI s3), (Ty.val (.slice none 0 0))] :: Item.blk g1 27 [(tI 0), (tI 0), (Ty.val (.slice none 0 0))] :: L) rfl rfl (part_agg _) Tryd.sizeOf46 rfl rfl rfl rfl ?_)
              refine okL_nil ?_
              exact okX_meet (I := _) 38 (smh h25) (cc rfl (cc rfl (cc rfl (cc rfl (cc rfl (cc rfl (cc rfl (cc rfl cn)))))))) rfl
            · replace h25 := cf hb26 h25
              refine okC_skip ?_
              exact okX_meet (I := _) 13 (smh h25) (cc rfl (cc rfl (cc rfl (cc rfl (cc rfl (cc rfl (cc rfl (cc rfl cn)))))))) rfl
          · intro s21 hx
            change OkC _ _ _ [(0, (tL 1 lI a0)), (1, (tI a1)), (4, (pAt g1 0)), (5, (pAt g2 0)), (6, (tI (w64 (1 + (if 5 < (w64 (Int.tdiv ((a0).length : Int) 6)) then 5 else (w64 (Int.tdiv ((a0).length : Int) 6))))))), (8, (pAt g11 0)), (9, (tI s17.1)), (10, (pAt g20 0))] (Item.blk g20 46 [(tI s21), (tI s17.1), (tI 0), (tI 0), (tI s17.1)] :: rowL w18 48 6 VInstr.ty s17.2 :: Item.blk g11 43 [(Ty.own w18), (tI 0), (tI 0), (tI 0), (tI 0)] :: Item.blk g2 27 [(tI a1), (tI s3), (Ty.val (.slice none 0 0))] :: Item.blk g1 27 [(tI 0), (tI 0), (Ty.val (.slice none 0 0))] :: L)
            obtain rfl : s21 = z23 := hx.symm
            replace h := hz24
            refine okC_region ?_
            refine okL_step 47 (pAt g11 0) rfl rfl (does_fieldAddrP 0 Tryd.underlying43 rfl Tryd.sizeOf41 rfl rfl) ?_
            refine okL_step 48 (Ty.own w18) rfl rfl (does_loadB1 Tryd.isAgg41 rfl 2 rfl rfl) ?_
            refine okL_step 49 (Ty.agg [(tI s21), (tI s17.1), (tI 0), (tI 0), (tI s17.1)]) rfl rfl (does_loadBA [(tI s21), (tI s17.1), (tI 0), (tI 0), (tI s17.1)] Tryd.isAgg46 Tryd.sizeOf46 rfl 0 rfl rfl rfl) ?_
            refine okL_step 50 (Ty.agg [(tI s21), (tI s17.1), (tI 0), (tI 0), (tI s17.1), (Ty.val (.slice none 0 0))]) rfl rfl (does_build [(tI s21), (tI s17.1), (tI 0), (tI 0), (tI s17.1), (Ty.val (.slice none 0 0))] Tryd.zeroValue48 Tryd.underlying48 (places48 _ Tryd.underlying48) rfl (fc [(tI s21), (tI s17.1), (tI 0), (tI 0), (tI s17.1)] 0 rfl (part_agg _) rfl rfl (fn_ rfl))) ?_
            refine okL_step 51 (tL 6 VInstr.ty ([(⟨(⟨s21, s17.1, 0, 0, s17.1⟩ : Instr), []⟩ : VInstr)] : List VInstr)) rfl rfl (does_buildSlice (f := VInstr.ty) ([(⟨(⟨s21, s17.1, 0, 0, s17.1⟩ : Instr), []⟩ : VInstr)] : List VInstr) [(tI s21), (tI s17.1), (tI 0), (tI 0), (tI s17.1), (tL 1 lI [])] el41 rfl rfl rfl (fc [(tI s21), (tI s17.1), (tI 0), (tI 0), (tI s17.1), (tL 1 lI [])] 0 rfl (part_sub (part_agg _) (.cons (sub_refl _) (.cons (sub_refl _) (.cons (sub_refl _) (.cons (sub_refl _) (.cons (sub_refl _) (.cons (sub_nil _) SubL.nil))))))) rfl rfl (fn_ rfl)) rfl (fun _ => rfl)) ?_
            obtain ⟨l27, ha28, h⟩ := bs h
            refine okL_stepO 52 rfl rfl (doesO_append (f := VInstr.ty) (l := s17.2) (m := ([(⟨(⟨s21, s17.1, 0, 0, s17.1⟩ : Instr), []⟩ : VInstr)] : List VInstr)) el41 1 l27 (fun v29 => Item.blk g20 46 [(tI s21), (tI s17.1), (tI 0), (tI 0), (tI s17.1)] :: rowL v29 48 6 VInstr.ty l27 :: Item.blk g11 43 [(Ty.own w18), (tI 0), (tI 0), (tI 0), (tI 0)] :: Item.blk g2 27 [(tI a1), (tI s3), (Ty.val (.slice none 0 0))] :: Item.blk g1 27 [(tI 0), (tI 0), (Ty.val (.slice none 0 0))] :: L) ha28 rfl rfl rfl (fun _ => rfl) (fun v29 => ?_))
            refine okL_step 53 (pAt g11 0) rfl rfl (does_fieldAddrP 0 Tryd.underlying43 rfl Tryd.sizeOf41 rfl rfl) ?_
            refine okL_stepU rfl (doesO_storeB (ps := [(Ty.own v29)]) 2 [(Ty.own v29), (tI 0), (tI 0), (tI 0), (tI 0)] (Item.blk g20 46 [(tI s21), (tI s17.1), (tI 0), (tI 0), (tI s17.1)] :: rowL v29 48 6 VInstr.ty l27 :: Item.blk g11 43 [(Ty.own v29), (tI 0), (tI 0), (tI 0), (tI 0)] :: Item.blk g2 27 [(tI a1), (tI s3), (Ty.val (.slice none 0 0))] :: Item.blk g1 27 [(tI 0), (tI 0), (Ty.val (.slice none 0 0))] :: L) rfl rfl (part_one (one_own _)) Tryd.sizeOf41 rfl rfl rfl rfl ?_)
            refine okL_nil ?_
            refine okX_block_normal ?_
            refine okX_next ?_
            refine okC_region ?_
            refine okL_step 36 (tI s17.1) rfl rfl (does_move rfl) ?_
            refine okL_step 37 (tI (w64 (s17.1 + 1))) rfl rfl (does_add rfl rfl) ?_
            refine okL_step 9 (tI (w64 (s17.1 + 1))) rfl rfl (does_assign rfl) ?_
            refine okL_nil ?_
            refine okX_items [Item.blk g20 46 [(tI s21), (tI s17.1), (tI 0), (tI 0), (tI s17.1)]] (rowL v29 48 6 VInstr.ty l27 :: Item.blk g11 43 [(Ty.own v29), (tI 0), (tI 0), (tI 0), (tI 0)] :: Item.blk g2 27 [(tI a1), (tI s3), (Ty.val (.slice none 0 0))] :: Item.blk g1 27 [(tI 0), (tI 0), (Ty.val (.slice none 0 0))] :: L) (pm 0 rfl (pm 0 rfl (pm 0 rfl (pm 0 rfl (pm 0 rfl (pr _)))))) ?_
            exact okX_again k (Nat.lt_succ_self k) (((w64 (s17.1 + 1)), l27), v29) h (cc rfl (cc rfl (cc rfl (cc rfl (cc rfl (cc rfl (cc rfl cn))))))) rfl
        · replace h := cf hb19 h
          refine okC_exit ?_
          refine okX_then_exit ?_
          refine okX_again_exit ?_
          refine okX_block_hit ?_
          exact okX_meet (I := _) (s17.2, w18) (smh h) (cc rfl (cc rfl (cc rfl (cc rfl (cc rfl cn))))) rfl
    · intro x hx
      obtain ⟨s12, w13⟩ := x
      change OkX _ _ _ [(0, (tL 1 lI a0)), (4, (pAt g1 0)), (5, (pAt g2 0)), (6, (tI (w64 (1 + (if 5 < (w64 (Int.tdiv ((a0).length : Int) 6)) then 5 else (w64 (Int.tdiv ((a0).length : Int) 6))))))), (8, (pAt g11 0))] (rowL w13 48 6 VInstr.ty s12 :: Item.blk g11 43 [(Ty.own w13), (tI 0), (tI 0), (tI 0), (tI 0)] :: Item.blk g2 27 [(tI a1), (tI s3), (Ty.val (.slice none 0 0))] :: Item.blk g1 27 [(tI 0), (tI 0), (Ty.val (.slice none 0 0))] :: L)
      obtain rfl : s12 = z14 := hx.symm
      replace h := hz15
      refine okX_next ?_
      refine okC_seq ?_
      refine okC_region ?_
      refine okL_step 54 (pAt g11 1) rfl rfl (does_fieldAddrP 1 Tryd.underlying43 rfl Tryd.sizeOf3 rfl rfl) ?_
      refine okL_stepU rfl (doesO_storeB (ps := [(tI 1)]) 1 [(Ty.own w13), (tI 1), (tI 0), (tI 0), (tI 0)] (rowL w13 48 6 VInstr.ty s12 :: Item.blk g11 43 [(Ty.own w13), (tI 1), (tI 0), (tI 0), (tI 0)] :: Item.blk g2 27 [(tI a1), (tI s3), (Ty.val (.slice none 0 0))] :: Item.blk g1 27 [(tI 0), (tI 0), (Ty.val (.slice none 0 0))] :: L) rfl rfl (part_one (one_i _)) Tryd.sizeOf3 rfl rfl rfl rfl ?_)
      refine okL_step 55 (pAt g11 3) rfl rfl (does_fieldAddrP 3 Tryd.underlying43 rfl Tryd.sizeOf3 rfl rfl) ?_
      refine okL_stepU rfl (doesO_storeB (ps := [(tI 1)]) 1 [(Ty.own w13), (tI 1), (tI 0), (tI 1), (tI 0)] (rowL w13 48 6 VInstr.ty s12 :: Item.blk g11 43 [(Ty.own w13), (tI 1), (tI 0), (tI 1), (tI 0)] :: Item.blk g2 27 [(tI a1), (tI s3), (Ty.val (.slice none 0 0))] :: Item.blk g1 27 [(tI 0), (tI 0), (Ty.val (.slice none 0 0))] :: L) rfl rfl (part_one (one_i _)) Tryd.sizeOf3 rfl rfl rfl rfl ?_)
      refine okL_nil ?_
      refine okX_next ?_
      refine okC_seq ?_
      refine okC_region ?_
      refine okL_step 56 (pAt g2 2) rfl rfl (does_fieldAddrP 2 Tryd.underlying27 rfl Tryd.sizeOf25 rfl rfl) ?_
      refine okL_step 57 (Ty.val (.slice none 0 0)) rfl rfl (does_loadB1 Tryd.isAgg25 rfl 2 rfl rfl) ?_
      refine okL_publishB 0 [] [(tL 6 VInstr.ty s12), (tI 1), (tI 0), (tI 1), (tI 0)] (pm 0 rfl (pm 0 rfl (pr _))) rfl an rfl ?_
      refine okL_step 58 (Ty.agg [(tL 6 VInstr.ty s12), (tI 1), (tI 0), (tI 1), (tI 0)]) rfl rfl (does_loadBA [(tL 6 VInstr.ty s12), (tI 1), (tI 0), (tI 1), (tI 0)] Tryd.isAgg43 Tryd.sizeOf43 rfl 0 rfl rfl rfl) ?_
      refine okL_step 59 (tL 5 Block.ty ([(⟨s12, 1, 0, 1, 0⟩ : Block)] : List Block)) rfl rfl (does_buildSlice (f := Block.ty) ([(⟨s12, 1, 0, 1, 0⟩ : Block)] : List Block) [(tL 6 VInstr.ty s12), (tI 1), (tI 0), (tI 1), (tI 0)] el25 rfl rfl rfl (fc [(tL 6 VInstr.ty s12), (tI 1), (tI 0), (tI 1), (tI 0)] 0 rfl (part_agg _) rfl rfl (fn_ rfl)) rfl (fun _ => rfl)) ?_
      obtain ⟨l30, ha31, h⟩ := bs h
      refine okL_stepO 60 rfl rfl (doesO_appendN (f := Block.ty) (m := ([(⟨s12, 1, 0, 1, 0⟩ : Block)] : List Block)) el25 l30 ha31 rfl rfl (fun v32 => ?_))
      refine okL_step 61 (pAt g2 2) rfl rfl (does_fieldAddrP 2 Tryd.underlying27 rfl Tryd.sizeOf25 rfl rfl) ?_
      refine okL_stepU rfl (doesO_storeB (ps := [(Ty.own v32)]) 2 [(tI a1), (tI s3), (Ty.own v32)] (rowL v32 43 5 Block.ty l30 :: Item.blk g11 43 [(tL 6 VInstr.ty s12), (tI 1), (tI 0), (tI 1), (tI 0)] :: Item.blk g2 27 [(tI a1), (tI s3), (Ty.own v32)] :: Item.blk g1 27 [(tI 0), (tI 0), (Ty.val (.slice none 0 0))] :: L) rfl rfl (part_one (one_own _)) Tryd.sizeOf25 rfl rfl rfl rfl ?_)
      refine okL_nil ?_
      refine okX_next ?_
      refine okC_seq ?_
      refine okC_seq ?_
      refine okC_region ?_
      refine okL_step 11 (tI 0) rfl rfl (does_assign rfl) ?_
      refine okL_nil ?_
      refine okX_next ?_
      obtain ⟨z35, h37, hz36⟩ := bs h
      refine okC_meetE (X := ((List Block) × Value)) (fun x => z35 = x.1) (fun x : ((List Block) × Value) => [(4, (pAt g1 0)), (5, (pAt g2 0))]) (fun x : ((List Block) × Value) => rowL x.2 43 5 Block.ty x.1 :: Item.blk g11 43 [(tL 6 VInstr.ty s12), (tI 1), (tI 0), (tI 1), (tI 0)] :: Item.blk g2 27 [(tI a1), (tI s3), (Ty.own x.2)] :: Item.blk g1 27 [(tI 0), (tI 0), (Ty.val (.slice none 0 0))] :: L) ?_ ?_
      · refine okC_block ?_
        refine okC_loop (X := ((Int × (List Block)) × Value)) (fun k x => keep2_VFunc_l3 K a0 a1 s3 k x.1 = some z35) (fun x : ((Int × (List Block)) × Value) => [(0, (tL 1 lI a0)), (4, (pAt g1 0)), (5, (pAt g2 0)), (6, (tI (w64 (1 + (if 5 < (w64 (Int.tdiv ((a0).length : Int) 6)) then 5 else (w64 (Int.tdiv ((a0).length : Int) 6))))))), (11, (tI x.1.1))]) (fun x : ((Int × (List Block)) × Value) => rowL x.2 43 5 Block.ty x.1.2 :: Item.blk g11 43 [(tL 6 VInstr.ty s12), (tI 1), (tI 0), (tI 1), (tI 0)] :: Item.blk g2 27 [(tI a1), (tI s3), (Ty.own x.2)] :: Item.blk g1 27 [(tI 0), (tI 0), (Ty.val (.slice none 0 0))] :: L) K ((0, l30), v32) h37 (cc rfl (cc rfl (cc rfl (cc rfl (cc rfl cn))))) rfl (fun k x hI => ?_)
        obtain ⟨s38, w39⟩ := x
        change OkC _ _ _ [(0, (tL 1 lI a0)), (4, (pAt g1 0)), (5, (pAt g2 0)), (6, (tI (w64 (1 + (if 5 < (w64 (Int.tdiv ((a0).length : Int) 6)) then 5 else (w64 (Int.tdiv ((a0).length : Int) 6))))))), (11, (tI s38.1))] (rowL w39 43 5 Block.ty s38.2 :: Item.blk g11 43 [(tL 6 VInstr.ty s12), (tI 1), (tI 0), (tI 1), (tI 0)] :: Item.blk g2 27 [(tI a1), (tI s3), (Ty.own w39)] :: Item.blk g1 27 [(tI 0), (tI 0), (Ty.val (.slice none 0 0))] :: L)
        cases k with
        | zero => exact (nz hI).elim
        | succ k =>
          have h : keep2_VFunc_l3 K a0 a1 s3 (k + 1) s38 = some z35 := hI
          rw [keep2_VFunc_l3.eq_2] at h
          refine okC_seq ?_
          refine okC_seq ?_
          refine okC_region ?_
          refine okL_step 62 (tI s38.1) rfl rfl (does_move rfl) ?_
          refine okL_step 63 (tI (w64 (1 + (if 5 < (w64 (Int.tdiv ((a0).length : Int) 6)) then 5 else (w64 (Int.tdiv ((a0).length : Int) 6)))))) rfl rfl (does_move rfl) ?_
          refine okL_step 64 (tB (decide (s38.1 < (w64 (1 + (if 5 < (w64 (Int.tdiv ((a0).length : Int) 6)) then 5 else (w64 (Int.tdiv ((a0).length : Int) 6)))))))) rfl rfl (does_lss rfl rfl) ?_
          refine okL_nil ?_
          refine okX_next ?_
          refine okC_cond (b := (decide (s38.1 < (w64 (1 + (if 5 < (w64 (Int.tdiv ((a0).length : Int) 6)) then 5 else (w64 (Int.tdiv ((a0).length : Int) 6)))))))) rfl (fun hb40 => ?_) (fun hb40 => ?_)
          · replace h := ct hb40 h
            refine okC_skip ?_
            refine okX_next ?_
            refine okC_seq ?_
            refine okC_block ?_
            refine okC_seq ?_
            refine okC_region ?_
            refine okL_stepO 12 rfl rfl (doesO_alloc [(Ty.val (.slice none 0 0)), (tI 0), (tI 0), (tI 0), (tI 0)] Tryd.zeroValue43 (part_of (sub_agg [(.slice none 0 0), (.int .i64 0), (.int .i64 0), (.int .i64 0), (.int .i64 0)] rfl) (part_agg _)) (fun g41 => ?_))
            refine okL_nil ?_
            refine okX_next ?_
            refine okC_seq ?_
            refine okC_seq ?_
            refine okC_region ?_
            refine okL_step 13 (tI 0) rfl rfl (does_assign rfl) ?_
            refine okL_nil ?_
            refine okX_next ?_
            refine okC_nilrowB (sz := 6) VInstr.ty 48 0 0 [(Ty.own (.slice none 0 0)), (tI 0), (tI 0), (tI 0), (tI 0)] (rowL (.slice none 0 0) 48 6 VInstr.ty ([] : List VInstr) :: Item.blk g41 43 [(Ty.own (.slice none 0 0)), (tI 0), (tI 0), (tI 0), (tI 0)] :: rowL w39 43 5 Block.ty s38.2 :: Item.blk g11 43 [(tL 6 VInstr.ty s12), (tI 1), (tI 0), (tI 1), (tI 0)] :: Item.blk g2 27 [(tI a1), (tI s3), (Ty.own w39)] :: Item.blk g1 27 [(tI 0), (tI 0), (Ty.val (.slice none 0 0))] :: L) rfl rfl rfl rfl ?_
            obtain ⟨z44, h46, hz45⟩ := bs h
            refine okC_meetE (X := ((List VInstr) × Value)) (fun x => z44 = x.1) (fun x : ((List VInstr) × Value) => [(0, (tL 1 lI a0)), (4, (pAt g1 0)), (5, (pAt g2 0)), (6, (tI (w64 (1 + (if 5 < (w64 (Int.tdiv ((a0).length : Int) 6)) then 5 else (w64 (Int.tdiv ((a0).length : Int) 6))))))), (11, (tI s38.1)), (12, (pAt g41 0))]) (fun x : ((List VInstr) × Value) => rowL x.2 48 6 VInstr.ty x.1 :: Item.blk g41 43 [(Ty.own x.2), (tI 0), (tI 0), (tI 0), (tI 0)] :: rowL w39 43 5 Block.ty s38.2 :: Item.blk g11 43 [(tL 6 VInstr.ty s12), (tI 1), (tI 0), (tI 1), (tI 0)] :: Item.blk g2 27 [(tI a1), (tI s3), (Ty.own w39)] :: Item.blk g1 27 [(tI 0), (tI 0), (Ty.val (.slice none 0 0))] :: L) ?_ ?_
            · refine okC_block ?_
              refine okC_loop (X := ((Int × (List VInstr)) × Value)) (fun k x => keep2_VFunc_l4 K a0 a1 s3 s38 k x.1 = some z44) (fun x : ((Int × (List VInstr)) × Value) => [(0, (tL 1 lI a0)), (4, (pAt g1 0)), (5, (pAt g2 0)), (6, (tI (w64 (1 + (if 5 < (w64 (Int.tdiv ((a0).length : Int) 6)) then 5 else (w64 (Int.tdiv ((a0).length : Int) 6))))))), (11, (tI s38.1)), (12, (pAt g41 0)), (13, (tI x.1.1))]) (fun x : ((Int × (List VInstr)) × Value) => rowL x.2 48 6 VInstr.ty x.1.2 :: Item.blk g41 43 [(Ty.own x.2), (tI 0), (tI 0), (tI 0), (tI 0)] :: rowL w39 43 5 Block.ty s38.2 :: Item.blk g11 43 [(tL 6 VInstr.ty s12), (tI 1), (tI 0), (tI 1), (tI 0)] :: Item.blk g2 27 [(tI a1), (tI s3), (Ty.own w39)] :: Item.blk g1 27 [(tI 0), (tI 0), (Ty.val (.slice none 0 0))] :: L) K ((0, ([] : List VInstr)), (.slice none 0 0)) h46 (cc rfl (cc rfl (cc rfl (cc rfl (cc rfl (cc rfl (cc rfl cn))))))) rfl (fun k x hI => ?_)
              obtain ⟨s47, w48⟩ := x
              change OkC _ _ _ [(0, (tL 1 lI a0)), (4, (pAt g1 0)), (5, (pAt g2 0)), (6, (tI (w64 (1 + (if 5 < (w64 (Int.tdiv ((a0).length : Int) 6)) then 5 else (w64 (Int.tdiv ((a0).length : Int) 6))))))), (11, (tI s38.1)), (12, (pAt g41 0)), (13, (tI s47.1))] (rowL w48 48 6 VInstr.ty s47.2 :: Item.blk g41 43 [(Ty.own w48), (tI 0), (tI 0), (tI 0), (tI 0)] :: rowL w39 43 5 Block.ty s38.2 :: Item.blk g11 43 [(tL 6 VInstr.ty s12), (tI 1), (tI 0), (tI 1), (tI 0)] :: Item.blk g2 27 [(tI a1), (tI s3), (Ty.own w39)] :: Item.blk g1 27 [(tI 0), (tI 0), (Ty.val (.slice none 0 0))] :: L)
              cases k with
              | zero => exact (nz hI).elim
              | succ k =>
                have h : keep2_VFunc_l4 K a0 a1 s3 s38 (k + 1) s47 = some z44 := hI
                rw [keep2_VFunc_l4.eq_2] at h
                refine okC_seq ?_
                refine okC_seq ?_
                refine okC_region ?_
                refine okL_step 67 (tI s47.1) rfl rfl (does_move rfl) ?_
                refine okL_step 68 (tB (decide (s47.1 < 5))) rfl rfl (does_lss rfl rfl) ?_
                refine okL_step 69 (tB (decide (s47.1 < 5))) rfl rfl (does_move rfl) ?_
                refine okL_meet (X := Bool) 8 (fun x => x = ((decide (s47.1 < 5)) && (decide ((w64 ((w64 (6 * s38.1)) + s47.1)) < ((a0).length : Int))))) (fun x : Bool => [(0, (tL 1 lI a0)), (4, (pAt g1 0)), (5, (pAt g2 0)), (6, (tI (w64 (1 + (if 5 < (w64 (Int.tdiv ((a0).length : Int) 6)) then 5 else (w64 (Int.tdiv ((a0).length : Int) 6))))))), (11, (tI s38.1)), (12, (pAt g41 0)), (13, (tI s47.1)), (77, (tB x))]) (fun x : Bool => rowL w48 48 6 VInstr.ty s47.2 :: Item.blk g41 43 [(Ty.own w48), (tI 0), (tI 0), (tI 0), (tI 0)] :: rowL w39 43 5 Block.ty s38.2 :: Item.blk g11 43 [(tL 6 VInstr.ty s12), (tI 1), (tI 0), (tI 1), (tI 0)] :: Item.blk g2 27 [(tI a1), (tI s3), (Ty.own w39)] :: Item.blk g1 27 [(tI 0), (tI 0), (Ty.val (.slice none 0 0))] :: L) _ rfl ?_ ?_
                · refine okL_split (decide (s47.1 < 5)) (fun hb49 => ?_) (fun hb49 => ?_)
                  · refine okL_guard 70 (tI s38.1) 69 (decide (s47.1 < 5)) rfl rfl hb49 rfl rfl (does_move rfl) ?_
                    refine okL_guard 71 (tI (w64 (6 * s38.1))) 69 (decide (s47.1 < 5)) rfl rfl hb49 rfl rfl (does_mul rfl rfl) ?_
                    refine okL_guard 72 (tI s47.1) 69 (decide (s47.1 < 5)) rfl rfl hb49 rfl rfl (does_move rfl) ?_
                    refine okL_guard 73 (tI (w64 ((w64 (6 * s38.1)) + s47.1))) 69 (decide (s47.1 < 5)) rfl rfl hb49 rfl rfl (does_add rfl rfl) ?_
                    refine okL_guard 74 (tL 1 lI a0) 69 (decide (s47.1 < 5)) rfl rfl hb49 rfl rfl (does_move rfl) ?_
                    refine okL_guard 75 (tI ((a0).length : Int)) 69 (decide (s47.1 < 5)) rfl rfl hb49 rfl rfl (does_len (sz := 1) (f := lI) (l := a0) rfl Tryd.underlying31 rfl) ?_
                    refine okL_guard 76 (tB (decide ((w64 ((w64 (6 * s38.1)) + s47.1)) < ((a0).length : Int)))) 69 (decide (s47.1 < 5)) rfl rfl hb49 rfl rfl (does_lss rfl rfl) ?_
                    refine okL_step 77 (tB (decide ((w64 ((w64 (6 * s38.1)) + s47.1)) < ((a0).length : Int)))) rfl rfl (does_pick_t (decide (s47.1 < 5)) rfl hb49 rfl) ?_
                    refine okL_nil ?_
                    exact okX_meet (I := _) (decide ((w64 ((w64 (6 * s38.1)) + s47.1)) < ((a0).length : Int))) (and_t hb49) (cc rfl (cc rfl (cc rfl (cc rfl (cc rfl (cc rfl (cc rfl (cc rfl cn)))))))) rfl
                  · refine okL_skip 70 69 (decide (s47.1 < 5)) rfl rfl hb49 rfl rfl ?_
                    refine okL_skip 71 69 (decide (s47.1 < 5)) rfl rfl hb49 rfl rfl ?_
                    refine okL_skip 72 69 (decide (s47.1 < 5)) rfl rfl hb49 rfl rfl ?_
                    refine okL_skip 73 69 (decide (s47.1 < 5)) rfl rfl hb49 rfl rfl ?_
                    refine okL_skip 74 69 (decide (s47.1 < 5)) rfl rfl hb49 rfl rfl ?_
                    refine okL_skip 75 69 (decide (s47.1 < 5)) rfl rfl hb49 rfl rfl ?_
                    refine okL_skip 76 69 (decide (s47.1 < 5)) rfl rfl hb49 rfl rfl ?_
                    refine okL_step 77 (tB false) rfl rfl (does_pick_f (decide (s47.1 < 5)) rfl hb49 rfl) ?_
                    refine okL_nil ?_
                    exact okX_meet (I := _) false (and_f hb49) (cc rfl (cc rfl (cc rfl (cc rfl (cc rfl (cc rfl (cc rfl (cc rfl cn)))))))) rfl
                · intro x58 hx
                  subst hx
                  change OkL _ _ _ _ [(0, (tL 1 lI a0)), (4, (pAt g1 0)), (5, (pAt g2 0)), (6, (tI (w64 (1 + (if 5 < (w64 (Int.tdiv ((a0).length : Int) 6)) then 5 else (w64 (Int.tdiv ((a0).length : Int) 6))))))), (11, (tI s38.1)), (12, (pAt g41 0)), (13, (tI s47.1)), (77, (tB ((decide (s47.1 < 5)) && (decide ((w64 ((w64 (6 * s38.1)) + s47.1)) < ((a0).length : Int))))))] (rowL w48 48 6 VInstr.ty s47.2 :: Item.blk g41 43 [(Ty.own w48), (tI 0), (tI 0), (tI 0), (tI 0)] :: rowL w39 43 5 Block.ty s38.2 :: Item.blk g11 43 [(tL 6 VInstr.ty s12), (tI 1), (tI 0), (tI 1), (tI 0)] :: Item.blk g2 27 [(tI a1), (tI s3), (Ty.own w39)] :: Item.blk g1 27 [(tI 0), (tI 0), (Ty.val (.slice none 0 0))] :: L)
                  refine okL_nil ?_
                  refine okX_next ?_
                  refine okC_cond (b := ((decide (s47.1 < 5)) && (decide ((w64 ((w64 (6 * s38.1)) + s47.1)) < ((a0).length : Int))))) rfl (fun hb50 => ?_) (fun hb50 => ?_)
                  · replace h := ct hb50 h
                    refine okC_skip ?_
                    refine okX_next ?_
                    refine okC_seq ?_
                    refine okC_block ?_
                    refine okC_cov [(0, (tL 1 lI a0)), (4, (pAt g1 0)), (5, (pAt g2 0)), (6, (tI (w64 (1 + (if 5 < (w64 (Int.tdiv ((a0).length : Int) 6)) then 5 else (w64 (Int.tdiv ((a0).length : Int) 6))))))), (11, (tI s38.1)), (12, (pAt g41 0)), (13, (tI s47.1))] (cc rfl (cc rfl (cc rfl (cc rfl (cc rfl (cc rfl (cc rfl cn))))))) ?_
                    obtain ⟨y51, hi52, h⟩ := bs h
                    obtain ⟨r53, hc54, h⟩ := bs h
                    refine okC_draw 12 [some (80, (pAt g41 0)), some (81, (Ty.own w48)), some (82, (tL 1 lI a0)), some (83, (tI s38.1)), some (84, (tI (w64 (6 * s38.1)))), some (85, (tI s47.1)), some (86, (tI (w64 ((w64 (6 * s38.1)) + s47.1)))), some (87, (Ty.ptr [(tI y51)])), some (88, (tI y51)), some (89, (Ty.agg [(tI a1), (tI s3), (Ty.own w39)])), some (90, (Ty.agg [(tI r53.Instr.Op), (tI r53.Instr.A), (tI r53.Instr.B), (tI r53.Instr.C), (tI r53.Instr.N), (tL 1 lI r53.Args)])), some (91, (tL 6 VInstr.ty ([r53] : List VInstr)))] ⟨rowL w48 48 6 VInstr.ty s47.2 :: Item.blk g41 43 [(Ty.own w48), (tI 0), (tI 0), (tI 0), (tI 0)] :: rowL w39 43 5 Block.ty s38.2 :: Item.blk g11 43 [(tL 6 VInstr.ty s12), (tI 1), (tI 0), (tI 1), (tI 0)] :: Item.blk g2 27 [(tI a1), (tI s3), (Ty.own w39)] :: Item.blk g1 27 [(tI 0), (tI 0), (Ty.val (.slice none 0 0))] :: ([] : List Item), rowL w48 48 6 VInstr.ty s47.2 :: Item.blk g41 43 [(Ty.own w48), (tI 0), (tI 0), (tI 0), (tI 0)] :: rowL w39 43 5 Block.ty s38.2 :: Item.blk g11 43 [(tL 6 VInstr.ty s12), (tI 1), (tI 0), (tI 1), (tI 0)] :: Item.blk g2 27 [(tI a1), (tI s3), (Ty.own w39)] :: Item.blk g1 27 [(tI 0), (tI 0), (Ty.val (.slice none 0 0))] :: ([] : List Item), []⟩ [] mixed rfl rfl (by kernel_rfl) rfl (by kernel_rfl) rfl rfl rfl (fun _ h => List.Sublist.subset (.cons_cons _ (.cons_cons _ (.cons_cons _ (.cons_cons _ (.cons_cons _ (.cons_cons _ (List.nil_sublist _))))))) h) (fun _ h => List.Sublist.subset (.cons_cons _ (.cons_cons _ (.cons_cons _ (.cons_cons _ (.cons_cons _ (.cons_cons _ (List.nil_sublist _))))))) h) rfl (by kernel_rfl) (.inr ⟨by kernel_rfl, by kernel_rfl⟩) (by kernel_rfl) (by kernel_rfl) (dc (draw_plain rfl (does_fieldAddrP 0 Tryd.underlying43 rfl Tryd.sizeOf41 rfl rfl)) (dc (draw_plain rfl (does_loadB1 Tryd.isAgg41 rfl 1 rfl rfl)) (dc (draw_plain rfl (does_move rfl)) (dc (draw_plain rfl (does_move rfl)) (dc (draw_plain rfl (does_mul rfl rfl)) (dc (draw_plain rfl (does_move rfl)) (dc (draw_plain rfl (does_add rfl rfl)) (dc (draw_plain rfl (does_index (sz := 1) (f := lI) (l := a0) (n := (w64 ((w64 (6 * s38.1)) + s47.1))) y51 Tryd.underlying31 Tryd.sizeOf3 hi52 rfl rfl)) (dc (draw_plain rfl (does_load1 Tryd.isAgg3 rfl)) (dc (draw_plain rfl (does_loadBA [(tI a1), (tI s3), (Ty.own w39)] Tryd.isAgg27 Tryd.sizeOf27 rfl 4 rfl rfl rfl)) (dc (draw_plain rfl (does_callS (c_keep2_VInstr K y51 (⟨a1, s3, []⟩ : VFunc) r53 hc54) rfl Tryd.call57 (.cons rfl (sub_refl _) (.cons rfl (sub_aggs (.cons (sub_refl _) (.cons (sub_refl _) (.cons (sub_any (one_own _)) SubL.nil)))) ArgSub.nil)))) (dc (draw_plain rfl (does_buildSlice (f := VInstr.ty) ([r53] : List VInstr) [(tI r53.Instr.Op), (tI r53.Instr.A), (tI r53.Instr.B), (tI r53.Instr.C), (tI r53.Instr.N), (tL 1 lI r53.Args)] el41 rfl rfl rfl (fc [(tI r53.Instr.Op), (tI r53.Instr.A), (tI r53.Instr.B), (tI r53.Instr.C), (tI r53.Instr.N), (tL 1 lI r53.Args)] 0 rfl (part_agg _) rfl rfl (fn_ rfl)) rfl (fun _ => rfl))) (dn))))))))))))) ?_
                    refine ch_end ?_
                    change OkL _ _ _ _ [(80, (pAt g41 0)), (81, (Ty.own w48)), (82, (tL 1 lI a0)), (83, (tI s38.1)), (84, (tI (w64 (6 * s38.1)))), (85, (tI s47.1)), (86, (tI (w64 ((w64 (6 * s38.1)) + s47.1)))), (87, (Ty.ptr [(tI y51)])), (88, (tI y51)), (89, (Ty.agg [(tI a1), (tI s3), (Ty.own w39)])), (90, (Ty.agg [(tI r53.Instr.Op), (tI r53.Instr.A), (tI r53.Instr.B), (tI r53.Instr.C), (tI r53.Instr.N), (tL 1 lI r53.Args)])), (91, (tL 6 VInstr.ty ([r53] : List VInstr))), (0, (tL 1 lI a0)), (4, (pAt g1 0)), (5, (pAt g2 0)), (6, (tI (w64 (1 + (if 5 < (w64 (Int.tdiv ((a0).length : Int) 6)) then 5 else (w64 (Int.tdiv ((a0).length : Int) 6))))))), (11, (tI s38.1)), (12, (pAt g41 0)), (13, (tI s47.1))] (rowL w48 48 6 VInstr.ty s47.2 :: Item.blk g41 43 [(Ty.own w48), (tI 0), (tI 0), (tI 0), (tI 0)] :: rowL w39 43 5 Block.ty s38.2 :: Item.blk g11 43 [(tL 6 VInstr.ty s12), (tI 1), (tI 0), (tI 1), (tI 0)] :: Item.blk g2 27 [(tI a1), (tI s3), (Ty.own w39)] :: Item.blk g1 27 [(tI 0), (tI 0), (Ty.val (.slice none 0 0))] :: L)
                    obtain ⟨l55, ha56, h⟩ := bs h
                    refine okL_stepO 92 rfl rfl (doesO_append (f := VInstr.ty) (l := s47.2) (m := ([r53] : List VInstr)) el41 0 l55 (fun v57 => rowL v57 48 6 VInstr.ty l55 :: Item.blk g41 43 [(Ty.own w48), (tI 0), (tI 0), (tI 0), (tI 0)] :: rowL w39 43 5 Block.ty s38.2 :: Item.blk g11 43 [(tL 6 VInstr.ty s12), (tI 1), (tI 0), (tI 1), (tI 0)] :: Item.blk g2 27 [(tI a1), (tI s3), (Ty.own w39)] :: Item.blk g1 27 [(tI 0), (tI 0), (Ty.val (.slice none 0 0))] :: L) ha56 rfl rfl rfl (fun _ => rfl) (fun v57 => ?_))
                    refine okL_step 93 (pAt g41 0) rfl rfl (does_fieldAddrP 0 Tryd.underlying43 rfl Tryd.sizeOf41 rfl rfl) ?_
                    refine okL_stepU rfl (doesO_storeB (ps := [(Ty.own v57)]) 1 [(Ty.own v57), (tI 0), (tI 0), (tI 0), (tI 0)] (rowL v57 48 6 VInstr.ty l55 :: Item.blk g41 43 [(Ty.own v57), (tI 0), (tI 0), (tI 0), (tI 0)] :: rowL w39 43 5 Block.ty s38.2 :: Item.blk g11 43 [(tL 6 VInstr.ty s12), (tI 1), (tI 0), (tI 1), (tI 0)] :: Item.blk g2 27 [(tI a1), (tI s3), (Ty.own w39)] :: Item.blk g1 27 [(tI 0), (tI 0), (Ty.val (.slice none 0 0))] :: L) rfl rfl (part_one (one_own _)) Tryd.sizeOf41 rfl rfl rfl rfl ?_)
                    refine okL_nil ?_
                    refine okX_block_normal ?_
                    refine okX_next ?_
                    refine okC_region ?_
                    refine okL_step 78 (tI s47.1) rfl rfl (does_move rfl) ?_
                    refine okL_step 79 (tI (w64 (s47.1 + 1))) rfl rfl (does_add rfl rfl) ?_
                    refine okL_step 13 (tI (w64 (s47.1 + 1))) rfl rfl (does_assign rfl) ?_
                    refine okL_nil ?_
                    exact okX_again k (Nat.lt_succ_self k) (((w64 (s47.1 + 1)), l55), v57) h (cc rfl (cc rfl (cc rfl (cc rfl (cc rfl (cc rfl (cc rfl cn))))))) rfl
                  · replace h := cf hb50 h
                    refine okC_exit ?_
                    refine okX_then_exit ?_
                    refine okX_again_exit ?_
                    refine okX_block_hit ?_
                    exact okX_meet (I := _) (s47.2, w48) (smh h) (cc rfl (cc rfl (cc rfl (cc rfl (cc rfl (cc rfl cn)))))) rfl
            · intro x hx
              obtain ⟨s42, w43⟩ := x
              change OkX _ _ _ [(0, (tL 1 lI a0)), (4, (pAt g1 0)), (5, (pAt g2 0)), (6, (tI (w64 (1 + (if 5 < (w64 (Int.tdiv ((a0).length : Int) 6)) then 5 else (w64 (Int.tdiv ((a0).length : Int) 6))))))), (11, (tI s38.1)), (12, (pAt g41 0))] (rowL w43 48 6 VInstr.ty s42 :: Item.blk g41 43 [(Ty.own w43), (tI 0), (tI 0), (tI 0), (tI 0)] :: rowL w39 43 5 Block.ty s38.2 :: Item.blk g11 43 [(tL 6 VInstr.ty s12), (tI 1), (tI 0), (tI 1), (tI 0)] :: Item.blk g2 27 [(tI a1), (tI s3), (Ty.own w39)] :: Item.blk g1 27 [(tI 0), (tI 0), (Ty.val (.slice none 0 0))] :: L)
              obtain rfl : s42 = z44 := hx.symm
              replace h := hz45
              refine okX_next ?_
              refine okC_seq ?_
              refine okC_region ?_
              refine okL_step 14 (tI 0) rfl rfl (does_assign rfl) ?_
              refine okL_nil ?_
              refine okX_next ?_
              obtain ⟨z61, h63, hz62⟩ := bs h
              refine okC_meet (X := (Int × Value)) (fun x => z61 = x.1) (fun x : (Int × Value) => [(0, (tL 1 lI a0)), (4, (pAt g1 0)), (5, (pAt g2 0)), (6, (tI (w64 (1 + (if 5 < (w64 (Int.tdiv ((a0).length : Int) 6)) then 5 else (w64 (Int.tdiv ((a0).length : Int) 6))))))), (11, (tI s38.1)), (12, (pAt g41 0)), (14, (tI x.1))]) (fun x : (Int × Value) => rowL x.2 48 6 VInstr.ty s42 :: Item.blk g41 43 [(Ty.own x.2), (tI 0), (tI 0), (tI 0), (tI 0)] :: rowL w39 43 5 Block.ty s38.2 :: Item.blk g11 43 [(tL 6 VInstr.ty s12), (tI 1), (tI 0), (tI 1), (tI 0)] :: Item.blk g2 27 [(tI a1), (tI s3), (Ty.own w39)] :: Item.blk g1 27 [(tI 0), (tI 0), (Ty.val (.slice none 0 0))] :: L) ?_ ?_
              · refine okC_seq ?_
                refine okC_region ?_
                refine okL_step 94 (tI s38.1) rfl rfl (does_move rfl) ?_
                refine okL_step 95 (tI (w64 (6 * s38.1))) rfl rfl (does_mul rfl rfl) ?_
                refine okL_step 96 (tI (w64 ((w64 (6 * s38.1)) + 5))) rfl rfl (does_add rfl rfl) ?_
                refine okL_step 97 (tL 1 lI a0) rfl rfl (does_move rfl) ?_
                refine okL_step 98 (tI ((a0).length : Int)) rfl rfl (does_len (sz := 1) (f := lI) (l := a0) rfl Tryd.underlying31 rfl) ?_
                refine okL_step 99 (tB (decide ((w64 ((w64 (6 * s38.1)) + 5)) < ((a0).length : Int)))) rfl rfl (does_lss rfl rfl) ?_
                refine okL_nil ?_
                refine okX_next ?_
                refine okC_cond (b := (decide ((w64 ((w64 (6 * s38.1)) + 5)) < ((a0).length : Int)))) rfl (fun hb64 => ?_) (fun hb64 => ?_)
                · replace h63 := ct hb64 h63
                  refine okC_region ?_
                  refine okL_step 100 (tL 1 lI a0) rfl rfl (does_move rfl) ?_
                  refine okL_step 101 (tI s38.1) rfl rfl (does_move rfl) ?_
                  refine okL_step 102 (tI (w64 (6 * s38.1))) rfl rfl (does_mul rfl rfl) ?_
                  refine okL_step 103 (tI (w64 ((w64 (6 * s38.1)) + 5))) rfl rfl (does_add rfl rfl) ?_
                  obtain ⟨y65, hi66, h63⟩ := bs h63
                  refine okL_step 104 (Ty.ptr [(tI y65)]) rfl rfl (does_index (sz := 1) (f := lI) (l := a0) (n := (w64 ((w64 (6 * s38.1)) + 5))) y65 Tryd.underlying31 Tryd.sizeOf3 hi66 rfl rfl) ?_
                  refine okL_step 105 (tI y65) rfl rfl (does_load1 Tryd.isAgg3 rfl) ?_
                  refine okL_step 14 (tI y65) rfl rfl (does_assign rfl) ?_
                  refine okL_nil ?_
                  exact okX_meet (I := _) (y65, w43) (smh h63) (cc rfl (cc rfl (cc rfl (cc rfl (cc rfl (cc rfl (cc rfl cn))))))) rfl
                · replace h63 := cf hb64 h63
                  refine okC_skip ?_
                  exact okX_meet (I := _) (0, w43) (smh h63) (cc rfl (cc rfl (cc rfl (cc rfl (cc rfl (cc rfl (cc rfl cn))))))) rfl
              · intro x hx
                obtain ⟨s59, w60⟩ := x
                change OkC _ _ _ [(0, (tL 1 lI a0)), (4, (pAt g1 0)), (5, (pAt g2 0)), (6, (tI (w64 (1 + (if 5 < (w64 (Int.tdiv ((a0).length : Int) 6)) then 5 else (w64 (Int.tdiv ((a0).length : Int) 6))))))), (11, (tI s38.1)), (12, (pAt g41 0)), (14, (tI s59))] (rowL w60 48 6 VInstr.ty s42 :: Item.blk g41 43 [(Ty.own w60), (tI 0), (tI 0), (tI 0), (tI 0)] :: rowL w39 43 5 Block.ty s38.2 :: Item.blk g11 43 [(tL 6 VInstr.ty s12), (tI 1), (tI 0), (tI 1), (tI 0)] :: Item.blk g2 27 [(tI a1), (tI s3), (Ty.own w39)] :: Item.blk g1 27 [(tI 0), (tI 0), (Ty.val (.slice none 0 0))] :: L)
                obtain rfl : s59 = z61 := hx.symm
                replace h := hz62
                refine okC_seq ?_
                refine okC_region ?_
                refine okL_step 106 (tI s59) rfl rfl (does_move rfl) ?_
                refine okL_step 107 (Ty.agg [(tI s59)]) rfl rfl (does_build [(tI s59)] Tryd.zeroValue103 Tryd.underlying103 (places103 _ Tryd.underlying103) rfl (fc [(tI s59)] 0 rfl (part_one (one_i _)) rfl rfl (fn_ rfl))) ?_
                refine okL_stepO 108 rfl rfl (doesO_box [(tI s59)] rfl (part_agg _) (fun g67 => ?_))
                refine okL_step 15 (pAt g67 0) rfl rfl (does_assign rfl) ?_
                refine okL_nil ?_
                refine okX_next ?_
                obtain ⟨z70, h72, hz71⟩ := bs h
                refine okC_meet (X := ((Int × Int × Int × Int × Int) × Value)) (fun x => z70 = x.1) (fun x : ((Int × Int × Int × Int × Int) × Value) => [(0, (tL 1 lI a0)), (4, (pAt g1 0)), (5, (pAt g2 0)), (6, (tI (w64 (1 + (if 5 < (w64 (Int.tdiv ((a0).length : Int) 6)) then 5 else (w64 (Int.tdiv ((a0).length : Int) 6))))))), (11, (tI s38.1)), (12, (pAt g41 0))]) (fun x : ((Int × Int × Int × Int × Int) × Value) => Item.blk g67 103 [(tI x.1.1)] :: rowL x.2 48 6 VInstr.ty s42 :: Item.blk g41 43 [(Ty.own x.2), (tI x.1.2.1), (tI x.1.2.2.1), (tI x.1.2.2.2.1), (tI x.1.2.2.2.2)] :: rowL w39 43 5 Block.ty s38.2 :: Item.blk g11 43 [(tL 6 VInstr.ty s12), (tI 1), (tI 0), (tI 1), (tI 0)] :: Item.blk g2 27 [(tI a1), (tI s3), (Ty.own w39)] :: Item.blk g1 27 [(tI 0), (tI 0), (Ty.val (.slice none 0 0))] :: L) ?_ ?_
                · refine okC_seq ?_
                  refine okC_region ?_
                  refine okL_step 109 (pAt g67 0) rfl rfl (does_move rfl) ?_
                  obtain ⟨r73, hc74, h72⟩ := bs h72
                  refine okL_stepO 110 rfl rfl (doesO_call0 (rowL w60 48 6 VInstr.ty s42 :: Item.blk g41 43 [(Ty.own w60), (tI 0), (tI 0), (tI 0), (tI 0)] :: rowL w39 43 5 Block.ty s38.2 :: Item.blk g11 43 [(tL 6 VInstr.ty s12), (tI 1), (tI 0), (tI 1), (tI 0)] :: Item.blk g2 27 [(tI a1), (tI s3), (Ty.own w39)] :: Item.blk g1 27 [(tI 0), (tI 0), (Ty.val (.slice none 0 0))] :: L) (c_keep2_Digits_Next (⟨s59⟩ : Fullingkeep2Digits) 6 g67 r73 hc74) rfl Tryd.call74 rfl (pm 0 rfl (pr _)) (fun _ => ?_))
                  refine okL_nil ?_
                  refine okX_next ?_
                  refine okC_block ?_
                  refine okC_seq ?_
                  refine okC_region ?_
                  refine okL_step 128 (tB (r73.1 == 0)) rfl rfl (does_eql rfl rfl) ?_
                  refine okL_step 127 (tB (r73.1 == 0)) rfl rfl (does_assign rfl) ?_
                  refine okL_nil ?_
                  refine okX_next ?_
                  refine okC_cond (b := (r73.1 == 0)) rfl (fun hb75 => ?_) (fun hb75 => ?_)
                  · replace h72 := ct hb75 h72
                    refine okC_region ?_
                    refine okL_step 129 (pAt g67 0) rfl rfl (does_move rfl) ?_
                    refine okL_step 130 (tI (w64 (1 + (if 5 < (w64 (Int.tdiv ((a0).length : Int) 6)) then 5 else (w64 (Int.tdiv ((a0).length : Int) 6)))))) rfl rfl (does_move rfl) ?_
                    obtain ⟨r76, hc77, h72⟩ := bs h72
                    refine okL_stepO 131 rfl rfl (doesO_call0 (rowL w60 48 6 VInstr.ty s42 :: Item.blk g41 43 [(Ty.own w60), (tI 0), (tI 0), (tI 0), (tI 0)] :: rowL w39 43 5 Block.ty s38.2 :: Item.blk g11 43 [(tL 6 VInstr.ty s12), (tI 1), (tI 0), (tI 1), (tI 0)] :: Item.blk g2 27 [(tI a1), (tI s3), (Ty.own w39)] :: Item.blk g1 27 [(tI 0), (tI 0), (Ty.val (.slice none 0 0))] :: L) (c_keep2_Digits_Next r73.2 (w64 (1 + (if 5 < (w64 (Int.tdiv ((a0).length : Int) 6)) then 5 else (w64 (Int.tdiv ((a0).length : Int) 6))))) g67 r76 hc77) rfl Tryd.call74 rfl (pm 0 rfl (pr _)) (fun _ => ?_))
                    refine okL_step 132 (tI (w64 (1 + r76.1))) rfl rfl (does_add rfl rfl) ?_
                    refine okL_step 133 (pAt g41 1) rfl rfl (does_fieldAddrP 1 Tryd.underlying43 rfl Tryd.sizeOf3 rfl rfl) ?_
                    refine okL_stepU rfl (doesO_storeB (ps := [(tI 1)]) 2 [(Ty.own w60), (tI 1), (tI 0), (tI 0), (tI 0)] (Item.blk g67 103 [(tI r76.2.N)] :: rowL w60 48 6 VInstr.ty s42 :: Item.blk g41 43 [(Ty.own w60), (tI 1), (tI 0), (tI 0), (tI 0)] :: rowL w39 43 5 Block.ty s38.2 :: Item.blk g11 43 [(tL 6 VInstr.ty s12), (tI 1), (tI 0), (tI 1), (tI 0)] :: Item.blk g2 27 [(tI a1), (tI s3), (Ty.own w39)] :: Item.blk g1 27 [(tI 0), (tI 0), (Ty.val (.slice none 0 0))] :: L) rfl rfl (part_one (one_i _)) Tryd.sizeOf3 rfl rfl rfl rfl ?_)
                    refine okL_step 134 (pAt g41 3) rfl rfl (does_fieldAddrP 3 Tryd.underlying43 rfl Tryd.sizeOf3 rfl rfl) ?_
                    refine okL_stepU rfl (doesO_storeB (ps := [(tI (w64 (1 + r76.1)))]) 2 [(Ty.own w60), (tI 1), (tI 0), (tI (w64 (1 + r76.1))), (tI 0)] (Item.blk g67 103 [(tI r76.2.N)] :: rowL w60 48 6 VInstr.ty s42 :: Item.blk g41 43 [(Ty.own w60), (tI 1), (tI 0), (tI (w64 (1 + r76.1))), (tI 0)] :: rowL w39 43 5 Block.ty s38.2 :: Item.blk g11 43 [(tL 6 VInstr.ty s12), (tI 1), (tI 0), (tI 1), (tI 0)] :: Item.blk g2 27 [(tI a1), (tI s3), (Ty.own w39)] :: Item.blk g1 27 [(tI 0), (tI 0), (Ty.val (.slice none 0 0))] :: L) rfl rfl (part_one (one_i _)) Tryd.sizeOf3 rfl rfl rfl rfl ?_)
                    refine okL_nil ?_
                    refine okX_block_normal ?_
                    exact okX_meet (I := _) ((r76.2.N, 1, 0, (w64 (1 + r76.1)), 0), w60) (smh h72) (cc rfl (cc rfl (cc rfl (cc rfl (cc rfl (cc rfl cn)))))) rfl
                  · replace h72 := cf hb75 h72
                    refine okC_seq ?_
                    refine okC_region ?_
                    refine okL_step 136 (tB (r73.1 == 1)) rfl rfl (does_eql rfl rfl) ?_
                    refine okL_step 135 (tB (r73.1 == 1)) rfl rfl (does_assign rfl) ?_
                    refine okL_nil ?_
                    refine okX_next ?_
                    refine okC_cond (b := (r73.1 == 1)) rfl (fun hb78 => ?_) (fun hb78 => ?_)
                    · replace h72 := ct hb78 h72
                      refine okC_region ?_
                      refine okL_step 137 (pAt g67 0) rfl rfl (does_move rfl) ?_
                      obtain ⟨r79, hc80, h72⟩ := bs h72
                      refine okL_stepO 138 rfl rfl (doesO_call0 (rowL w60 48 6 VInstr.ty s42 :: Item.blk g41 43 [(Ty.own w60), (tI 0), (tI 0), (tI 0), (tI 0)] :: rowL w39 43 5 Block.ty s38.2 :: Item.blk g11 43 [(tL 6 VInstr.ty s12), (tI 1), (tI 0), (tI 1), (tI 0)] :: Item.blk g2 27 [(tI a1), (tI s3), (Ty.own w39)] :: Item.blk g1 27 [(tI 0), (tI 0), (Ty.val (.slice none 0 0))] :: L) (c_keep2_Digits_Next r73.2 9 g67 r79 hc80) rfl Tryd.call74 rfl (pm 0 rfl (pr _)) (fun _ => ?_))
                      refine okL_step 139 (tI (w64 (1 + r79.1))) rfl rfl (does_add rfl rfl) ?_
                      refine okL_step 140 (pAt g41 1) rfl rfl (does_fieldAddrP 1 Tryd.underlying43 rfl Tryd.sizeOf3 rfl rfl) ?_
                      refine okL_stepU rfl (doesO_storeB (ps := [(tI 4)]) 2 [(Ty.own w60), (tI 4), (tI 0), (tI 0), (tI 0)] (Item.blk g67 103 [(tI r79.2.N)] :: rowL w60 48 6 VInstr.ty s42 :: Item.blk g41 43 [(Ty.own w60), (tI 4), (tI 0), (tI 0), (tI 0)] :: rowL w39 43 5 Block.ty s38.2 :: Item.blk g11 43 [(tL 6 VInstr.ty s12), (tI 1), (tI 0), (tI 1), (tI 0)] :: Item.blk g2 27 [(tI a1), (tI s3), (Ty.own w39)] :: Item.blk g1 27 [(tI 0), (tI 0), (Ty.val (.slice none 0 0))] :: L) rfl rfl (part_one (one_i _)) Tryd.sizeOf3 rfl rfl rfl rfl ?_)
                      refine okL_step 141 (pAt g41 3) rfl rfl (does_fieldAddrP 3 Tryd.underlying43 rfl Tryd.sizeOf3 rfl rfl) ?_
                      refine okL_stepU rfl (doesO_storeB (ps := [(tI (w64 (1 + r79.1)))]) 2 [(Ty.own w60), (tI 4), (tI 0), (tI (w64 (1 + r79.1))), (tI 0)] (Item.blk g67 103 [(tI r79.2.N)] :: rowL w60 48 6 VInstr.ty s42 :: Item.blk g41 43 [(Ty.own w60), (tI 4), (tI 0), (tI (w64 (1 + r79.1))), (tI 0)] :: rowL w39 43 5 Block.ty s38.2 :: Item.blk g11 43 [(tL 6 VInstr.ty s12), (tI 1), (tI 0), (tI 1), (tI 0)] :: Item.blk g2 27 [(tI a1), (tI s3), (Ty.own w39)] :: Item.blk g1 27 [(tI 0), (tI 0), (Ty.val (.slice none 0 0))] :: L) rfl rfl (part_one (one_i _)) Tryd.sizeOf3 rfl rfl rfl rfl ?_)
                      refine okL_nil ?_
                      refine okX_block_normal ?_
                      exact okX_meet (I := _) ((r79.2.N, 4, 0, (w64 (1 + r79.1)), 0), w60) (smh h72) (cc rfl (cc rfl (cc rfl (cc rfl (cc rfl (cc rfl cn)))))) rfl
                    · replace h72 := cf hb78 h72
                      refine okC_seq ?_
                      refine okC_region ?_
                      refine okL_step 143 (tB (r73.1 == 2)) rfl rfl (does_eql rfl rfl) ?_
                      refine okL_step 142 (tB (r73.1 == 2)) rfl rfl (does_assign rfl) ?_
                      refine okL_nil ?_
                      refine okX_next ?_
                      refine okC_cond (b := (r73.1 == 2)) rfl (fun hb81 => ?_) (fun hb81 => ?_)
                      · replace h72 := ct hb81 h72
                        refine okC_region ?_
                        refine okL_step 144 (pAt g67 0) rfl rfl (does_move rfl) ?_
                        refine okL_step 145 (pAt g2 1) rfl rfl (does_fieldAddrP 1 Tryd.underlying27 rfl Tryd.sizeOf3 rfl rfl) ?_
                        refine okL_step 146 (tI s3) rfl rfl (does_loadB1 Tryd.isAgg3 rfl 5 rfl rfl) ?_
                        obtain ⟨r82, hc83, h72⟩ := bs h72
                        refine okL_stepO 147 rfl rfl (doesO_call0 (rowL w60 48 6 VInstr.ty s42 :: Item.blk g41 43 [(Ty.own w60), (tI 0), (tI 0), (tI 0), (tI 0)] :: rowL w39 43 5 Block.ty s38.2 :: Item.blk g11 43 [(tL 6 VInstr.ty s12), (tI 1), (tI 0), (tI 1), (tI 0)] :: Item.blk g2 27 [(tI a1), (tI s3), (Ty.own w39)] :: Item.blk g1 27 [(tI 0), (tI 0), (Ty.val (.slice none 0 0))] :: L) (c_keep2_Digits_Next r73.2 s3 g67 r82 hc83) rfl Tryd.call74 rfl (pm 0 rfl (pr _)) (fun _ => ?_))
                        refine okL_step 148 (pAt g41 1) rfl rfl (does_fieldAddrP 1 Tryd.underlying43 rfl Tryd.sizeOf3 rfl rfl) ?_
                        refine okL_stepU rfl (doesO_storeB (ps := [(tI 3)]) 2 [(Ty.own w60), (tI 3), (tI 0), (tI 0), (tI 0)] (Item.blk g67 103 [(tI r82.2.N)] :: rowL w60 48 6 VInstr.ty s42 :: Item.blk g41 43 [(Ty.own w60), (tI 3), (tI 0), (tI 0), (tI 0)] :: rowL w39 43 5 Block.ty s38.2 :: Item.blk g11 43 [(tL 6 VInstr.ty s12), (tI 1), (tI 0), (tI 1), (tI 0)] :: Item.blk g2 27 [(tI a1), (tI s3), (Ty.own w39)] :: Item.blk g1 27 [(tI 0), (tI 0), (Ty.val (.slice none 0 0))] :: L) rfl rfl (part_one (one_i _)) Tryd.sizeOf3 rfl rfl rfl rfl ?_)
                        refine okL_step 149 (pAt g41 2) rfl rfl (does_fieldAddrP 2 Tryd.underlying43 rfl Tryd.sizeOf3 rfl rfl) ?_
                        refine okL_stepU rfl (doesO_storeB (ps := [(tI r82.1)]) 2 [(Ty.own w60), (tI 3), (tI r82.1), (tI 0), (tI 0)] (Item.blk g67 103 [(tI r82.2.N)] :: rowL w60 48 6 VInstr.ty s42 :: Item.blk g41 43 [(Ty.own w60), (tI 3), (tI r82.1), (tI 0), (tI 0)] :: rowL w39 43 5 Block.ty s38.2 :: Item.blk g11 43 [(tL 6 VInstr.ty s12), (tI 1), (tI 0), (tI 1), (tI 0)] :: Item.blk g2 27 [(tI a1), (tI s3), (Ty.own w39)] :: Item.blk g1 27 [(tI 0), (tI 0), (Ty.val (.slice none 0 0))] :: L) rfl rfl (part_one (one_i _)) Tryd.sizeOf3 rfl rfl rfl rfl ?_)
                        refine okL_nil ?_
                        refine okX_block_normal ?_
                        exact okX_meet (I := _) ((r82.2.N, 3, r82.1, 0, 0), w60) (smh h72) (cc rfl (cc rfl (cc rfl (cc rfl (cc rfl (cc rfl cn)))))) rfl
                      · replace h72 := cf hb81 h72
                        refine okC_region ?_
                        refine okL_step 111 (pAt g67 0) rfl rfl (does_move rfl) ?_
                        refine okL_step 112 (pAt g2 1) rfl rfl (does_fieldAddrP 1 Tryd.underlying27 rfl Tryd.sizeOf3 rfl rfl) ?_
                        refine okL_step 113 (tI s3) rfl rfl (does_loadB1 Tryd.isAgg3 rfl 5 rfl rfl) ?_
                        obtain ⟨r84, hc85, h72⟩ := bs h72
                        refine okL_stepO 114 rfl rfl (doesO_call0 (rowL w60 48 6 VInstr.ty s42 :: Item.blk g41 43 [(Ty.own w60), (tI 0), (tI 0), (tI 0), (tI 0)] :: rowL w39 43 5 Block.ty s38.2 :: Item.blk g11 43 [(tL 6 VInstr.ty s12), (tI 1), (tI 0), (tI 1), (tI 0)] :: Item.blk g2 27 [(tI a1), (tI s3), (Ty.own w39)] :: Item.blk g1 27 [(tI 0), (tI 0), (Ty.val (.slice none 0 0))] :: L) (c_keep2_Digits_Next r73.2 s3 g67 r84 hc85) rfl Tryd.call74 rfl (pm 0 rfl (pr _)) (fun _ => ?_))
                        refine okL_step 115 (pAt g67 0) rfl rfl (does_move rfl) ?_
                        refine okL_step 116 (tI (w64 (1 + (if 5 < (w64 (Int.tdiv ((a0).length : Int) 6)) then 5 else (w64 (Int.tdiv ((a0).length : Int) 6)))))) rfl rfl (does_move rfl) ?_
                        obtain ⟨r86, hc87, h72⟩ := bs h72
                        refine okL_stepO 117 rfl rfl (doesO_call0 (rowL w60 48 6 VInstr.ty s42 :: Item.blk g41 43 [(Ty.own w60), (tI 0), (tI 0), (tI 0), (tI 0)] :: rowL w39 43 5 Block.ty s38.2 :: Item.blk g11 43 [(tL 6 VInstr.ty s12), (tI 1), (tI 0), (tI 1), (tI 0)] :: Item.blk g2 27 [(tI a1), (tI s3), (Ty.own w39)] :: Item.blk g1 27 [(tI 0), (tI 0), (Ty.val (.slice none 0 0))] :: L) (c_keep2_Digits_Next r84.2 (w64 (1 + (if 5 < (w64 (Int.tdiv ((a0).length : Int) 6)) then 5 else (w64 (Int.tdiv ((a0).length : Int) 6))))) g67 r86 hc87) rfl Tryd.call74 rfl (pm 0 rfl (pr _)) (fun _ => ?_))
                        refine okL_step 118 (tI (w64 (1 + r86.1))) rfl rfl (does_add rfl rfl) ?_
                        refine okL_step 119 (pAt g67 0) rfl rfl (does_move rfl) ?_
                        refine okL_step 120 (tI (w64 (1 + (if 5 < (w64 (Int.tdiv ((a0).length : Int) 6)) then 5 else (w64 (Int.tdiv ((a0).length : Int) 6)))))) rfl rfl (does_move rfl) ?_
                        obtain ⟨r88, hc89, h72⟩ := bs h72
                        refine okL_stepO 121 rfl rfl (doesO_call0 (rowL w60 48 6 VInstr.ty s42 :: Item.blk g41 43 [(Ty.own w60), (tI 0), (tI 0), (tI 0), (tI 0)] :: rowL w39 43 5 Block.ty s38.2 :: Item.blk g11 43 [(tL 6 VInstr.ty s12), (tI 1), (tI 0), (tI 1), (tI 0)] :: Item.blk g2 27 [(tI a1), (tI s3), (Ty.own w39)] :: Item.blk g1 27 [(tI 0), (tI 0), (Ty.val (.slice none 0 0))] :: L) (c_keep2_Digits_Next r86.2 (w64 (1 + (if 5 < (w64 (Int.tdiv ((a0).length : Int) 6)) then 5 else (w64 (Int.tdiv ((a0).length : Int) 6))))) g67 r88 hc89) rfl Tryd.call74 rfl (pm 0 rfl (pr _)) (fun _ => ?_))
                        refine okL_step 122 (tI (w64 (1 + r88.1))) rfl rfl (does_add rfl rfl) ?_
                        refine okL_step 123 (pAt g41 1) rfl rfl (does_fieldAddrP 1 Tryd.underlying43 rfl Tryd.sizeOf3 rfl rfl) ?_
                        refine okL_stepU rfl (doesO_storeB (ps := [(tI 2)]) 2 [(Ty.own w60), (tI 2), (tI 0), (tI 0), (tI 0)] (Item.blk g67 103 [(tI r88.2.N)] :: rowL w60 48 6 VInstr.ty s42 :: Item.blk g41 43 [(Ty.own w60), (tI 2), (tI 0), (tI 0), (tI 0)] :: rowL w39 43 5 Block.ty s38.2 :: Item.blk g11 43 [(tL 6 VInstr.ty s12), (tI 1), (tI 0), (tI 1), (tI 0)] :: Item.blk g2 27 [(tI a1), (tI s3), (Ty.own w39)] :: Item.blk g1 27 [(tI 0), (tI 0), (Ty.val (.slice none 0 0))] :: L) rfl rfl (part_one (one_i _)) Tryd.sizeOf3 rfl rfl rfl rfl ?_)
                        refine okL_step 124 (pAt g41 2) rfl rfl (does_fieldAddrP 2 Tryd.underlying43 rfl Tryd.sizeOf3 rfl rfl) ?_
                        refine okL_stepU rfl (doesO_storeB (ps := [(tI r84.1)]) 2 [(Ty.own w60), (tI 2), (tI r84.1), (tI 0), (tI 0)] (Item.blk g67 103 [(tI r88.2.N)] :: rowL w60 48 6 VInstr.ty s42 :: Item.blk g41 43 [(Ty.own w60), (tI 2), (tI r84.1), (tI 0), (tI 0)] :: rowL w39 43 5 Block.ty s38.2 :: Item.blk g11 43 [(tL 6 VInstr.ty s12), (tI 1), (tI 0), (tI 1), (tI 0)] :: Item.blk g2 27 [(tI a1), (tI s3), (Ty.own w39)] :: Item.blk g1 27 [(tI 0), (tI 0), (Ty.val (.slice none 0 0))] :: L) rfl rfl (part_one (one_i _)) Tryd.sizeOf3 rfl rfl rfl rfl ?_)
                        refine okL_step 125 (pAt g41 3) rfl rfl (does_fieldAddrP 3 Tryd.underlying43 rfl Tryd.sizeOf3 rfl rfl) ?_
                        refine okL_stepU rfl (doesO_storeB (ps := [(tI (w64 (1 + r86.1)))]) 2 [(Ty.own w60), (tI 2), (tI r84.1), (tI (w64 (1 + r86.1))), (tI 0)] (Item.blk g67 103 [(tI r88.2.N)] :: rowL w60 48 6 VInstr.ty s42 :: Item.blk g41 43 [(Ty.own w60), (tI 2), (tI r84.1), (tI (w64 (1 + r86.1))), (tI 0)] :: rowL w39 43 5 Block.ty s38.2 :: Item.blk g11 43 [(tL 6 VInstr.ty s12), (tI 1), (tI 0), (tI 1), (tI 0)] :: Item.blk g2 27 [(tI a1), (tI s3), (Ty.own w39)] :: Item.blk g1 27 [(tI 0), (tI 0), (Ty.val (.slice none 0 0))] :: L) rfl rfl (part_one (one_i _)) Tryd.sizeOf3 rfl rfl rfl rfl ?_)
                        refine okL_step 126 (pAt g41 4) rfl rfl (does_fieldAddrP 4 Tryd.underlying43 rfl Tryd.sizeOf3 rfl rfl) ?_
                        refine okL_stepU rfl (doesO_storeB (ps := [(tI (w64 (1 + r88.1)))]) 2 [(Ty.own w60), (tI 2), (tI r84.1), (tI (w64 (1 + r86.1))), (tI (w64 (1 + r88.1)))] (Item.blk g67 103 [(tI r88.2.N)] :: rowL w60 48 6 VInstr.ty s42 :: Item.blk g41 43 [(Ty.own w60), (tI 2), (tI r84.1), (tI (w64 (1 + r86.1))), (tI (w64 (1 + r88.1)))] :: rowL w39 43 5 Block.ty s38.2 :: Item.blk g11 43 [(tL 6 VInstr.ty s12), (tI 1), (tI 0), (tI 1), (tI 0)] :: Item.blk g2 27 [(tI a1), (tI s3), (Ty.own w39)] :: Item.blk g1 27 [(tI 0), (tI 0), (Ty.val (.slice none 0 0))] :: L) rfl rfl (part_one (one_i _)) Tryd.sizeOf3 rfl rfl rfl rfl ?_)
                        refine okL_nil ?_
                        refine okX_block_normal ?_
                        exact okX_meet (I := _) ((r88.2.N, 2, r84.1, (w64 (1 + r86.1)), (w64 (1 + r88.1))), w60) (smh h72) (cc rfl (cc rfl (cc rfl (cc rfl (cc rfl (cc rfl cn)))))) rfl
                · intro x hx
                  obtain ⟨s68, w69⟩ := x
                  change OkC _ _ _ [(0, (tL 1 lI a0)), (4, (pAt g1 0)), (5, (pAt g2 0)), (6, (tI (w64 (1 + (if 5 < (w64 (Int.tdiv ((a0).length : Int) 6)) then 5 else (w64 (Int.tdiv ((a0).length : Int) 6))))))), (11, (tI s38.1)), (12, (pAt g41 0))] (Item.blk g67 103 [(tI s68.1)] :: rowL w69 48 6 VInstr.ty s42 :: Item.blk g41 43 [(Ty.own w69), (tI s68.2.1), (tI s68.2.2.1), (tI s68.2.2.2.1), (tI s68.2.2.2.2)] :: rowL w39 43 5 Block.ty s38.2 :: Item.blk g11 43 [(tL 6 VInstr.ty s12), (tI 1), (tI 0), (tI 1), (tI 0)] :: Item.blk g2 27 [(tI a1), (tI s3), (Ty.own w39)] :: Item.blk g1 27 [(tI 0), (tI 0), (Ty.val (.slice none 0 0))] :: L)
                  obtain rfl : s68 = z70 := hx.symm
                  replace h := hz71
                  obtain ⟨z92, h94, hz93⟩ := bs h
                  refine okC_meet (X := ((Int × Int × Int) × Value)) (fun x => z92 = x.1) (fun x : ((Int × Int × Int) × Value) => [(0, (tL 1 lI a0)), (4, (pAt g1 0)), (5, (pAt g2 0)), (6, (tI (w64 (1 + (if 5 < (w64 (Int.tdiv ((a0).length : Int) 6)) then 5 else (w64 (Int.tdiv ((a0).length : Int) 6))))))), (11, (tI s38.1)), (12, (pAt g41 0))]) (fun x : ((Int × Int × Int) × Value) => Item.blk g67 103 [(tI s68.1)] :: rowL x.2 48 6 VInstr.ty s42 :: Item.blk g41 43 [(Ty.own x.2), (tI x.1.1), (tI x.1.2.1), (tI x.1.2.2), (tI s68.2.2.2.2)] :: rowL w39 43 5 Block.ty s38.2 :: Item.blk g11 43 [(tL 6 VInstr.ty s12), (tI 1), (tI 0), (tI 1), (tI 0)] :: Item.blk g2 27 [(tI a1), (tI s3), (Ty.own w39)] :: Item.blk g1 27 [(tI 0), (tI 0), (Ty.val (.slice none 0 0))] :: L) ?_ ?_
                  · refine okC_seq ?_
                    refine okC_region ?_
                    refine okL_step 150 (tI s38.1) rfl rfl (does_move rfl) ?_
                    refine okL_step 151 (tI (w64 (1 + (if 5 < (w64 (Int.tdiv ((a0).length : Int) 6)) then 5 else (w64 (Int.tdiv ((a0).length : Int) 6)))))) rfl rfl (does_move rfl) ?_
                    refine okL_step 152 (tI (w64 ((w64 (1 + (if 5 < (w64 (Int.tdiv ((a0).length : Int) 6)) then 5 else (w64 (Int.tdiv ((a0).length : Int) 6))))) - 1))) rfl rfl (does_sub rfl rfl) ?_
                    refine okL_step 153 (tB (s38.1 == (w64 ((w64 (1 + (if 5 < (w64 (Int.tdiv ((a0).length : Int) 6)) then 5 else (w64 (Int.tdiv ((a0).length : Int) 6))))) - 1)))) rfl rfl (does_eql rfl rfl) ?_
                    refine okL_step 154 (tB (s38.1 == (w64 ((w64 (1 + (if 5 < (w64 (Int.tdiv ((a0).length : Int) 6)) then 5 else (w64 (Int.tdiv ((a0).length : Int) 6))))) - 1)))) rfl rfl (does_move rfl) ?_
                    refine okL_meet (X := Bool) 4 (fun x => x = ((s38.1 == (w64 ((w64 (1 + (if 5 < (w64 (Int.tdiv ((a0).length : Int) 6)) then 5 else (w64 (Int.tdiv ((a0).length : Int) 6))))) - 1))) && (s68.2.1 == 1))) (fun x : Bool => [(0, (tL 1 lI a0)), (4, (pAt g1 0)), (5, (pAt g2 0)), (6, (tI (w64 (1 + (if 5 < (w64 (Int.tdiv ((a0).length : Int) 6)) then 5 else (w64 (Int.tdiv ((a0).length : Int) 6))))))), (11, (tI s38.1)), (12, (pAt g41 0)), (158, (tB x))]) (fun x : Bool => Item.blk g67 103 [(tI s68.1)] :: rowL w69 48 6 VInstr.ty s42 :: Item.blk g41 43 [(Ty.own w69), (tI s68.2.1), (tI s68.2.2.1), (tI s68.2.2.2.1), (tI s68.2.2.2.2)] :: rowL w39 43 5 Block.ty s38.2 :: Item.blk g11 43 [(tL 6 VInstr.ty s12), (tI 1), (tI 0), (tI 1), (tI 0)] :: Item.blk g2 27 [(tI a1), (tI s3), (Ty.own w39)] :: Item.blk g1 27 [(tI 0), (tI 0), (Ty.val (.slice none 0 0))] :: L) _ rfl ?_ ?_
                    · refine okL_split (s38.1 == (w64 ((w64 (1 + (if 5 < (w64 (Int.tdiv ((a0).length : Int) 6)) then 5 else (w64 (Int.tdiv ((a0).length : Int) 6))))) - 1))) (fun hb95 => ?_) (fun hb95 => ?_)
                      · refine okL_guard 155 (pAt g41 1) 154 (s38.1 == (w64 ((w64 (1 + (if 5 < (w64 (Int.tdiv ((a0).length : Int) 6)) then 5 else (w64 (Int.tdiv ((a0).length : Int) 6))))) - 1))) rfl rfl hb95 rfl rfl (does_fieldAddrP 1 Tryd.underlying43 rfl Tryd.sizeOf3 rfl rfl) ?_
                        refine okL_guard 156 (tI s68.2.1) 154 (s38.1 == (w64 ((w64 (1 + (if 5 < (w64 (Int.tdiv ((a0).length : Int) 6)) then 5 else (w64 (Int.tdiv ((a0).length : Int) 6))))) - 1))) rfl rfl hb95 rfl rfl (does_loadB1 Tryd.isAgg3 rfl 2 rfl rfl) ?_
                        refine okL_guard 157 (tB (s68.2.1 == 1)) 154 (s38.1 == (w64 ((w64 (1 + (if 5 < (w64 (Int.tdiv ((a0).length : Int) 6)) then 5 else (w64 (Int.tdiv ((a0).length : Int) 6))))) - 1))) rfl rfl hb95 rfl rfl (does_eql rfl rfl) ?_
                        refine okL_step 158 (tB (s68.2.1 == 1)) rfl rfl (does_pick_t (s38.1 == (w64 ((w64 (1 + (if 5 < (w64 (Int.tdiv ((a0).length : Int) 6)) then 5 else (w64 (Int.tdiv ((a0).length : Int) 6))))) - 1))) rfl hb95 rfl) ?_
                        refine okL_nil ?_
                        exact okX_meet (I := _) (s68.2.1 == 1) (and_t hb95) (cc rfl (cc rfl (cc rfl (cc rfl (cc rfl (cc rfl (cc rfl cn))))))) rfl
                      · refine okL_skip 155 154 (s38.1 == (w64 ((w64 (1 + (if 5 < (w64 (Int.tdiv ((a0).length : Int) 6)) then 5 else (w64 (Int.tdiv ((a0).length : Int) 6))))) - 1))) rfl rfl hb95 rfl rfl ?_
                        refine okL_skip 156 154 (s38.1 == (w64 ((w64 (1 + (if 5 < (w64 (Int.tdiv ((a0).length : Int) 6)) then 5 else (w64 (Int.tdiv ((a0).length : Int) 6))))) - 1))) rfl rfl hb95 rfl rfl ?_
                        refine okL_skip 157 154 (s38.1 == (w64 ((w64 (1 + (if 5 < (w64 (Int.tdiv ((a0).length : Int) 6)) then 5 else (w64 (Int.tdiv ((a0).length : Int) 6))))) - 1))) rfl rfl hb95 rfl rfl ?_
                        refine okL_step 158 (tB false) rfl rfl (does_pick_f (s38.1 == (w64 ((w64 (1 + (if 5 < (w64 (Int.tdiv ((a0).length : Int) 6)) then 5 else (w64 (Int.tdiv ((a0).length : Int) 6))))) - 1))) rfl hb95 rfl) ?_
                        refine okL_nil ?_
                        exact okX_meet (I := _) false (and_f hb95) (cc rfl (cc rfl (cc rfl (cc rfl (cc rfl (cc rfl (cc rfl cn))))))) rfl
                    · intro x97 hx
                      subst hx
                      change OkL _ _ _ _ [(0, (tL 1 lI a0)), (4, (pAt g1 0)), (5, (pAt g2 0)), (6, (tI (w64 (1 + (if 5 < (w64 (Int.tdiv ((a0).length : Int) 6)) then 5 else (w64 (Int.tdiv ((a0).length : Int) 6))))))), (11, (tI s38.1)), (12, (pAt g41 0)), (158, (tB ((s38.1 == (w64 ((w64 (1 + (if 5 < (w64 (Int.tdiv ((a0).length : Int) 6)) then 5 else (w64 (Int.tdiv ((a0).length : Int) 6))))) - 1))) && (s68.2.1 == 1))))] (Item.blk g67 103 [(tI s68.1)] :: rowL w69 48 6 VInstr.ty s42 :: Item.blk g41 43 [(Ty.own w69), (tI s68.2.1), (tI s68.2.2.1), (tI s68.2.2.2.1), (tI s68.2.2.2.2)] :: rowL w39 43 5 Block.ty s38.2 :: Item.blk g11 43 [(tL 6 VInstr.ty s12), (tI 1), (tI 0), (tI 1), (tI 0)] :: Item.blk g2 27 [(tI a1), (tI s3), (Ty.own w39)] :: Item.blk g1 27 [(tI 0), (tI 0), (Ty.val (.slice none 0 0))] :: L)
                      refine okL_nil ?_
                      refine okX_next ?_
                      refine okC_cond (b := ((s38.1 == (w64 ((w64 (1 + (if 5 < (w64 (Int.tdiv ((a0).length : Int) 6)) then 5 else (w64 (Int.tdiv ((a0).length : Int) 6))))) - 1))) && (s68.2.1 == 1))) rfl (fun hb96 => ?_) (fun hb96 => ?_)
                      · replace h94 := ct hb96 h94
                        refine okC_region ?_
                        refine okL_step 159 (pAt g41 1) rfl rfl (does_fieldAddrP 1 Tryd.underlying43 rfl Tryd.sizeOf3 rfl rfl) ?_
                        refine okL_stepU rfl (doesO_storeB (ps := [(tI 3)]) 2 [(Ty.own w69), (tI 3), (tI s68.2.2.1), (tI s68.2.2.2.1), (tI s68.2.2.2.2)] (Item.blk g67 103 [(tI s68.1)] :: rowL w69 48 6 VInstr.ty s42 :: Item.blk g41 43 [(Ty.own w69), (tI 3), (tI s68.2.2.1), (tI s68.2.2.2.1), (tI s68.2.2.2.2)] :: rowL w39 43 5 Block.ty s38.2 :: Item.blk g11 43 [(tL 6 VInstr.ty s12), (tI 1), (tI 0), (tI 1), (tI 0)] :: Item.blk g2 27 [(tI a1), (tI s3), (Ty.own w39)] :: Item.blk g1 27 [(tI 0), (tI 0), (Ty.val (.slice none 0 0))] :: L) rfl rfl (part_one (one_i _)) Tryd.sizeOf3 rfl rfl rfl rfl ?_)
                        refine okL_step 160 (pAt g41 3) rfl rfl (does_fieldAddrP 3 Tryd.underlying43 rfl Tryd.sizeOf3 rfl rfl) ?_
                        refine okL_stepU rfl (doesO_storeB (ps := [(tI 0)]) 2 [(Ty.own w69), (tI 3), (tI s68.2.2.1), (tI 0), (tI s68.2.2.2.2)] (Item.blk g67 103 [(tI s68.1)] :: rowL w69 48 6 VInstr.ty s42 :: Item.blk g41 43 [(Ty.own w69), (tI 3), (tI s68.2.2.1), (tI 0), (tI s68.2.2.2.2)] :: rowL w39 43 5 Block.ty s38.2 :: Item.blk g11 43 [(tL 6 VInstr.ty s12), (tI 1), (tI 0), (tI 1), (tI 0)] :: Item.blk g2 27 [(tI a1), (tI s3), (Ty.own w39)] :: Item.blk g1 27 [(tI 0), (tI 0), (Ty.val (.slice none 0 0))] :: L) rfl rfl (part_one (one_i _)) Tryd.sizeOf3 rfl rfl rfl rfl ?_)
                        refine okL_step 161 (pAt g41 2) rfl rfl (does_fieldAddrP 2 Tryd.underlying43 rfl Tryd.sizeOf3 rfl rfl) ?_
                        refine okL_stepU rfl (doesO_storeB (ps := [(tI 0)]) 2 [(Ty.own w69), (tI 3), (tI 0), (tI 0), (tI s68.2.2.2.2)] (Item.blk g67 103 [(tI s68.1)] :: rowL w69 48 6 VInstr.ty s42 :: Item.blk g41 43 [(Ty.own w69), (tI 3), (tI 0), (tI 0), (tI s68.2.2.2.2)] :: rowL w39 43 5 Block.ty s38.2 :: Item.blk g11 43 [(tL 6 VInstr.ty s12), (tI 1), (tI 0), (tI 1), (tI 0)] :: Item.blk g2 27 [(tI a1), (tI s3), (Ty.own w39)] :: Item.blk g1 27 [(tI 0), (tI 0), (Ty.val (.slice none 0 0))] :: L) rfl rfl (part_one (one_i _)) Tryd.sizeOf3 rfl rfl rfl rfl ?_)
                        refine okL_nil ?_
                        exact okX_meet (I := _) ((3, 0, 0), w69) (smh h94) (cc rfl (cc rfl (cc rfl (cc rfl (cc rfl (cc rfl cn)))))) rfl
                      · replace h94 := cf hb96 h94
                        refine okC_skip ?_
                        exact okX_meet (I := _) ((s68.2.1, s68.2.2.1, s68.2.2.2.1), w69) (smh h94) (cc rfl (cc rfl (cc rfl (cc rfl (cc rfl (cc rfl cn)))))) rfl
                  · intro x hx
                    obtain ⟨s90, w91⟩ := x
                    change OkC _ _ _ [(0, (tL 1 lI a0)), (4, (pAt g1 0)), (5, (pAt g2 0)), (6, (tI (w64 (1 + (if 5 < (w64 (Int.tdiv ((a0).length : Int) 6)) then 5 else (w64 (Int.tdiv ((a0).length : Int) 6))))))), (11, (tI s38.1)), (12, (pAt g41 0))] (Item.blk g67 103 [(tI s68.1)] :: rowL w91 48 6 VInstr.ty s42 :: Item.blk g41 43 [(Ty.own w91), (tI s90.1), (tI s90.2.1), (tI s90.2.2), (tI s68.2.2.2.2)] :: rowL w39 43 5 Block.ty s38.2 :: Item.blk g11 43 [(tL 6 VInstr.ty s12), (tI 1), (tI 0), (tI 1), (tI 0)] :: Item.blk g2 27 [(tI a1), (tI s3), (Ty.own w39)] :: Item.blk g1 27 [(tI 0), (tI 0), (Ty.val (.slice none 0 0))] :: L)
                    obtain rfl : s90 = z92 := hx.symm
                    replace h := hz93
                    refine okC_region ?_
                    refine okL_step 162 (pAt g2 2) rfl rfl (does_fieldAddrP 2 Tryd.underlying27 rfl Tryd.sizeOf25 rfl rfl) ?_
                    refine okL_step 163 (Ty.own w39) rfl rfl (does_loadB1 Tryd.isAgg25 rfl 5 rfl rfl) ?_
                    refine okL_publishB 0 [] [(tL 6 VInstr.ty s42), (tI s90.1), (tI s90.2.1), (tI s90.2.2), (tI s68.2.2.2.2)] (pm 1 rfl (pm 1 rfl (pr _))) rfl an rfl ?_
                    refine okL_step 164 (Ty.agg [(tL 6 VInstr.ty s42), (tI s90.1), (tI s90.2.1), (tI s90.2.2), (tI s68.2.2.2.2)]) rfl rfl (does_loadBA [(tL 6 VInstr.ty s42), (tI s90.1), (tI s90.2.1), (tI s90.2.2), (tI s68.2.2.2.2)] Tryd.isAgg43 Tryd.sizeOf43 rfl 0 rfl rfl rfl) ?_
                    refine okL_step 165 (tL 5 Block.ty ([(⟨s42, s90.1, s90.2.1, s90.2.2, s68.2.2.2.2⟩ : Block)] : List Block)) rfl rfl (does_buildSlice (f := Block.ty) ([(⟨s42, s90.1, s90.2.1, s90.2.2, s68.2.2.2.2⟩ : Block)] : List Block) [(tL 6 VInstr.ty s42), (tI s90.1), (tI s90.2.1), (tI s90.2.2), (tI s68.2.2.2.2)] el25 rfl rfl rfl (fc [(tL 6 VInstr.ty s42), (tI s90.1), (tI s90.2.1), (tI s90.2.2), (tI s68.2.2.2.2)] 0 rfl (part_agg _) rfl rfl (fn_ rfl)) rfl (fun _ => rfl)) ?_
                    obtain ⟨l98, ha99, h⟩ := bs h
                    refine okL_stepO 166 rfl rfl (doesO_append (f := Block.ty) (l := s38.2) (m := ([(⟨s42, s90.1, s90.2.1, s90.2.2, s68.2.2.2.2⟩ : Block)] : List Block)) el25 2 l98 (fun v100 => Item.blk g41 43 [(tL 6 VInstr.ty s42), (tI s90.1), (tI s90.2.1), (tI s90.2.2), (tI s68.2.2.2.2)] :: Item.blk g67 103 [(tI s68.1)] :: rowL v100 43 5 Block.ty l98 :: Item.blk g11 43 [(tL 6 VInstr.ty s12), (tI 1), (tI 0), (tI 1), (tI 0)] :: Item.blk g2 27 [(tI a1), (tI s3), (Ty.own w39)] :: Item.blk g1 27 [(tI 0), (tI 0), (Ty.val (.slice none 0 0))] :: L) ha99 rfl rfl rfl (fun _ => rfl) (fun v100 => ?_))
                    refine okL_step 167 (pAt g2 2) rfl rfl (does_fieldAddrP 2 Tryd.underlying27 rfl Tryd.sizeOf25 rfl rfl) ?_
                    refine okL_stepU rfl (doesO_storeB (ps := [(Ty.own v100)]) 4 [(tI a1), (tI s3), (Ty.own v100)] (Item.blk g41 43 [(tL 6 VInstr.ty s42), (tI s90.1), (tI s90.2.1), (tI s90.2.2), (tI s68.2.2.2.2)] :: Item.blk g67 103 [(tI s68.1)] :: rowL v100 43 5 Block.ty l98 :: Item.blk g11 43 [(tL 6 VInstr.ty s12), (tI 1), (tI 0), (tI 1), (tI 0)] :: Item.blk g2 27 [(tI a1), (tI s3), (Ty.own v100)] :: Item.blk g1 27 [(tI 0), (tI 0), (Ty.val (.slice none 0 0))] :: L) rfl rfl (part_one (one_own _)) Tryd.sizeOf25 rfl rfl rfl rfl ?_)
                    refine okL_nil ?_
                    refine okX_block_normal ?_
                    refine okX_next ?_
                    refine okC_region ?_
                    refine okL_step 65 (tI s38.1) rfl rfl (does_move rfl) ?_
                    refine okL_step 66 (tI (w64 (s38.1 + 1))) rfl rfl (does_add rfl rfl) ?_
                    refine okL_step 11 (tI (w64 (s38.1 + 1))) rfl rfl (does_assign rfl) ?_
                    refine okL_nil ?_
                    refine okX_items [Item.blk g41 43 [(tL 6 VInstr.ty s42), (tI s90.1), (tI s90.2.1), (tI s90.2.2), (tI s68.2.2.2.2)], Item.blk g67 103 [(tI s68.1)]] (rowL v100 43 5 Block.ty l98 :: Item.blk g11 43 [(tL 6 VInstr.ty s12), (tI 1), (tI 0), (tI 1), (tI 0)] :: Item.blk g2 27 [(tI a1), (tI s3), (Ty.own v100)] :: Item.blk g1 27 [(tI 0), (tI 0), (Ty.val (.slice none 0 0))] :: L) (pm 0 rfl (pm 0 rfl (pm 0 rfl (pm 0 rfl (pm 0 rfl (pm 0 rfl (pr _))))))) ?_
                    exact okX_again k (Nat.lt_succ_self k) (((w64 (s38.1 + 1)), l98), v100) h (cc rfl (cc rfl (cc rfl (cc rfl (cc rfl cn))))) rfl
          · replace h := cf hb40 h
            refine okC_exit ?_
            refine okX_then_exit ?_
            refine okX_again_exit ?_
            refine okX_block_hit ?_
            exact okX_meet (I := _) (s38.2, w39) (smh h) (cc rfl (cc rfl cn)) rfl
      · intro x hx
        obtain ⟨s33, w34⟩ := x
        change OkX _ _ _ [(4, (pAt g1 0)), (5, (pAt g2 0))] (rowL w34 43 5 Block.ty s33 :: Item.blk g11 43 [(tL 6 VInstr.ty s12), (tI 1), (tI 0), (tI 1), (tI 0)] :: Item.blk g2 27 [(tI a1), (tI s3), (Ty.own w34)] :: Item.blk g1 27 [(tI 0), (tI 0), (Ty.val (.slice none 0 0))] :: L)
        obtain rfl : s33 = z35 := hx.symm
        replace h := hz36
        refine okX_next ?_
        refine okC_seq ?_
        refine okC_region ?_
        refine okL_publishB 2 [] [(tI a1), (tI s3), (tL 5 Block.ty s33)] (pm 0 rfl (pm 1 rfl (pr _))) rfl an rfl ?_
        refine okL_step 168 (Ty.agg [(tI a1), (tI s3), (tL 5 Block.ty s33)]) rfl rfl (does_loadBA [(tI a1), (tI s3), (tL 5 Block.ty s33)] Tryd.isAgg27 Tryd.sizeOf27 rfl 0 rfl rfl rfl) ?_
        refine okL_stepU rfl (doesO_storeB (ps := [(tI a1), (tI s3), (tL 5 Block.ty s33)]) 2 [(tI a1), (tI s3), (tL 5 Block.ty s33)] (Item.blk g2 27 [(tI a1), (tI s3), (tL 5 Block.ty s33)] :: Item.blk g11 43 [(tL 6 VInstr.ty s12), (tI 1), (tI 0), (tI 1), (tI 0)] :: Item.blk g1 27 [(tI a1), (tI s3), (tL 5 Block.ty s33)] :: L) rfl rfl (part_agg _) Tryd.sizeOf27 rfl rfl rfl rfl ?_)
        refine okL_nil ?_
        refine okX_next ?_
        refine okC_ret ?_
        obtain rfl := (smh h).symm
        exact okX_retC () Tryd.results28 rfl 2 rfl Tryd.isAgg27 Tryd.sizeOf27 rfl rfl [Item.blk g2 27 [(tI a1), (tI s3), (tL 5 Block.ty s33)], Item.blk g11 43 [(tL 6 VInstr.ty s12), (tI 1), (tI 0), (tI 1), (tI 0)], Item.blk g1 27 [(tI a1), (tI s3), (tL 5 Block.ty s33)]] (pm 0 rfl (pm 0 rfl (pm 0 rfl (pr _))))

def ref32_LivePoints (K : Nat) (a0 : VFunc) (a1 : Int) : Option (List (List Int)) :=
  (Option.bind (ref32_Valid K a0) (fun r2 => (cnd (((!r2) || (decide (a1 < 0))) || (decide (a1 ≥ ((a0.Blocks).length : Int)))) (some ([] : List (List Int))) (Option.bind (ref32_LiveBlocks K a0) (fun r7 => (Option.bind (idx a0.Blocks a1) (fun y9 => (Option.bind (idx r7.2 a1) (fun y11 => (Option.bind (ref32_livePoints K y9 y11) (fun r13 => (some r13))))))))))))

def vcode_unique_l2 (K : Nat) (s6 : (Int × (List Int))) (y14 : Int) : Nat → Int → Option Int
  | 0, _ => none
  | k + 1, s21 => (Option.bind (cnd (decide (s21 > 0)) (Option.bind (idx s6.2 (w64 (s21 - 1))) (fun y28 => (some (decide (y28 ≥ y14))))) (some false)) (fun x27 => (cnd x27 (vcode_unique_l2 K s6 y14 k (w64 (s21 - 1))) (some s21))))

def vcode_unique_l1 (K : Nat) (a0 : (List Int)) : Nat → (Int × (List Int)) → Option (List Int)
  | 0, _ => none
  | k + 1, s6 => (cnd (decide (s6.1 < ((a0).length : Int))) (Option.bind (Option.bind (idx a0 s6.1) (fun y14 => (Option.bind (vcode_unique_l2 K s6 y14 K ((s6.2).length : Int)) (fun s16 => (Option.bind (cnd (decide (s16 < ((s6.2).length : Int))) (Option.bind (idx s6.2 s16) (fun y36 => (some (y36 == y14)))) (some false)) (fun x35 => (cnd x35 (some s6.2) (Option.bind (app 8 s6.2 ([0] : List Int)) (fun l39 => (Option.bind (subLo l39 (w64 (s16 + 1))) (fun l42 => (guardO (!(l39).isEmpty) (Option.bind (subLo l39 s16) (fun l45 => (guardO (!(l39).isEmpty) (guardO (decide ((w64 (s16 + 1)).toNat ≤ (l39).length) && decide (s16.toNat ≤ (l39).length)) (Option.bind (idx (cpy l39 (w64 (s16 + 1)).toNat s16.toNat) s16) (fun y49 => (some ((cpy l39 (w64 (s16 + 1)).toNat s16.toNat).set s16.toNat y14)))))))))))))))))))) (fun s9 => (vcode_unique_l1 K a0 k ((w64 (s6.1 + 1)), s9)))) (some s6.2))

def vcode_unique (K : Nat) (a0 : (List Int)) : Option (List Int) :=
  (Option.bind (vcode_unique_l1 K a0 K (0, ([] : List Int))) (fun s1 => (some s1)))

theorem c_vcode_unique (K : Nat) (a0 : (List Int)) (r : (List Int)) (h : vcode_unique K a0 = some r) : CallOk Tryd.prog glob 121 [(tL 1 lI a0)] [] Value (fun x : Value => ((Ty.own x), [rowL x 3 1 lI r])) := by
  refine call_of_code Tryd.func121 rfl Tryd.ntmps121 rfl (fun L w => ?_)
  change OkC _ _ _ [(0, (tL 1 lI a0))] (L)
  unfold vcode_unique at h
  refine okC_seq ?_
  refine okC_region ?_
  refine okL_step 2 (Ty.val (.slice none 0 0)) rfl rfl (does_assign rfl) ?_
  refine okL_nil ?_
  refine okX_next ?_
  refine okC_seq ?_
  refine okC_region ?_
  refine okL_step 3 (Ty.val (.slice none 0 0)) rfl rfl (does_assign rfl) ?_
  refine okL_nil ?_
  refine okX_next ?_
  refine okC_seq ?_
  refine okC_seq ?_
  refine okC_region ?_
  refine okL_step 7 (tL 1 lI a0) rfl rfl (does_move rfl) ?_
  refine okL_step 8 (tI ((a0).length : Int)) rfl rfl (does_len (sz := 1) (f := lI) (l := a0) rfl Tryd.underlying31 rfl) ?_
  refine okL_step 9 (tI 0) rfl rfl (does_move rfl) ?_
  refine okL_nil ?_
  refine okX_next ?_
  refine okC_nilrow (sz := 1) lI 3 3 rfl ?_
  obtain ⟨z3, h5, hz4⟩ := bs h
  refine okC_meetE (X := ((List Int) × Value)) (fun x => z3 = x.1) (fun x : ((List Int) × Value) => [(3, (Ty.own x.2))]) (fun x : ((List Int) × Value) => rowL x.2 3 1 lI x.1 :: L) ?_ ?_
  · refine okC_block ?_
    refine okC_loop (X := ((Int × (List Int)) × Value)) (fun k x => vcode_unique_l1 K a0 k x.1 = some z3) (fun x : ((Int × (List Int)) × Value) => [(3, (Ty.own x.2)), (7, (tL 1 lI a0)), (8, (tI ((a0).length : Int))), (9, (tI x.1.1))]) (fun x : ((Int × (List Int)) × Value) => rowL x.2 3 1 lI x.1.2 :: L) K ((0, ([] : List Int)), (.slice none 0 0)) h5 (cc rfl (cc rfl (cc rfl (cc rfl cn)))) rfl (fun k x hI => ?_)
    obtain ⟨s6, w7⟩ := x
    change OkC _ _ _ [(3, (Ty.own w7)), (7, (tL 1 lI a0)), (8, (tI ((a0).length : Int))), (9, (tI s6.1))] (rowL w7 3 1 lI s6.2 :: L)
    cases k with
    | zero => exact (nz hI).elim
    | succ k =>
      have h : vcode_unique_l1 K a0 (k + 1) s6 = some z3 := hI
      rw [vcode_unique_l1.eq_2] at h
      refine okC_seq ?_
      refine okC_region ?_
      refine okL_step 10 (tB (decide (s6.1 < ((a0).length : Int)))) rfl rfl (does_lss rfl rfl) ?_
      refine okL_nil ?_
      refine okX_next ?_
      refine okC_seq ?_
      refine okC_cond (b := (decide (s6.1 < ((a0).length : Int)))) rfl (fun hb8 => ?_) (fun hb8 => ?_)
      · replace h := ct hb8 h
        refine okC_skip ?_
        refine okX_next ?_
        obtain ⟨z11, h13, hz12⟩ := bs h
        refine okC_meet (X := ((List Int) × Value)) (fun x => z11 = x.1) (fun x : ((List Int) × Value) => [(3, (Ty.own x.2)), (7, (tL 1 lI a0)), (8, (tI ((a0).length : Int))), (9, (tI s6.1))]) (fun x : ((List Int) × Value) => rowL x.2 3 1 lI x.1 :: L) ?_ ?_
        · refine okC_block ?_
          refine okC_seq ?_
          refine okC_region ?_
          obtain ⟨y14, hi15, h13⟩ := bs h13
          refine okL_step 11 (Ty.ptr [(tI y14)]) rfl rfl (does_index (sz := 1) (f := lI) (l := a0) (n := s6.1) y14 Tryd.underlying31 Tryd.sizeOf3 hi15 rfl rfl) ?_
          refine okL_step 12 (tI y14) rfl rfl (does_load1 Tryd.isAgg3 rfl) ?_
          refine okL_step 5 (tI y14) rfl rfl (does_assign rfl) ?_
          refine okL_nil ?_
          refine okX_next ?_
          refine okC_seq ?_
          refine okC_region ?_
          refine okL_step 13 (Ty.own w7) rfl rfl (does_move rfl) ?_
          refine okL_step 14 (tI ((s6.2).length : Int)) rfl rfl (does_lenR rfl Tryd.underlying31 0 rfl rfl) ?_
          refine okL_step 6 (tI ((s6.2).length : Int)) rfl rfl (does_assign rfl) ?_
          refine okL_nil ?_
          refine okX_next ?_
          obtain ⟨z18, h20, hz19⟩ := bs h13
          refine okC_meet (X := Int) (fun x => z18 = x) (fun x : Int => [(3, (Ty.own w7)), (5, (tI y14)), (6, (tI x)), (7, (tL 1 lI a0)), (8, (tI ((a0).length : Int))), (9, (tI s6.1))]) (fun x : Int => rowL w7 3 1 lI s6.2 :: L) ?_ ?_
          · refine okC_block ?_
            refine okC_loop (X := Int) (fun k x => vcode_unique_l2 K s6 y14 k x = some z18) (fun x : Int => [(3, (Ty.own w7)), (5, (tI y14)), (6, (tI x)), (7, (tL 1 lI a0)), (8, (tI ((a0).length : Int))), (9, (tI s6.1))]) (fun x : Int => rowL w7 3 1 lI s6.2 :: L) K ((s6.2).length : Int) h20 (cc rfl (cc rfl (cc rfl (cc rfl (cc rfl (cc rfl cn)))))) rfl (fun k s21 hI => ?_)
            change OkC _ _ _ [(3, (Ty.own w7)), (5, (tI y14)), (6, (tI s21)), (7, (tL 1 lI a0)), (8, (tI ((a0).length : Int))), (9, (tI s6.1))] (rowL w7 3 1 lI s6.2 :: L)
            cases k with
            | zero => exact (nz hI).elim
            | succ k =>
              have h : vcode_unique_l2 K s6 y14 (k + 1) s21 = some z18 := hI
              rw [vcode_unique_l2.eq_2] at h
              refine okC_seq ?_
              refine okC_seq ?_
              refine okC_region ?_
              refine okL_step 15 (tI s21) rfl rfl (does_move rfl) ?_
              refine okL_step 16 (tB (decide (s21 > 0))) rfl rfl (does_gtr rfl rfl) ?_
              refine okL_step 17 (tB (decide (s21 > 0))) rfl rfl (does_move rfl) ?_
              obtain ⟨z24, h26, hz25⟩ := bs h
              refine okL_meet (X := Bool) 8 (fun x => z24 = x) (fun x : Bool => [(3, (Ty.own w7)), (5, (tI y14)), (6, (tI s21)), (7, (tL 1 lI a0)), (8, (tI ((a0).length : Int))), (9, (tI s6.1)), (25, (tB x))]) (fun x : Bool => rowL w7 3 1 lI s6.2 :: L) _ rfl ?_ ?_
              · refine okL_split (decide (s21 > 0)) (fun hb23 => ?_) (fun hb23 => ?_)
                · replace h26 := ct hb23 h26
                  refine okL_guard 18 (Ty.own w7) 17 (decide (s21 > 0)) rfl rfl hb23 rfl rfl (does_move rfl) ?_
                  refine okL_guard 19 (tI s21) 17 (decide (s21 > 0)) rfl rfl hb23 rfl rfl (does_move rfl) ?_
                  refine okL_guard 20 (tI (w64 (s21 - 1))) 17 (decide (s21 > 0)) rfl rfl hb23 rfl rfl (does_sub rfl rfl) ?_
                  obtain ⟨y28, hi29, h26⟩ := bs h26
                  refine okL_guard 21 (Ty.rptr w7 ((w64 (s21 - 1)).toNat * 1)) 17 (decide (s21 > 0)) rfl rfl hb23 rfl rfl (does_indexR (f := lI) (l := s6.2) (m := (w64 (s21 - 1))) el31 0 y28 hi29 rfl rfl rfl) ?_
                  refine okL_guard 22 (tI y28) 17 (decide (s21 > 0)) rfl rfl hb23 rfl rfl (does_loadR1 (sz := 1) (f := lI) (l := s6.2) 0 y28 0 Tryd.isAgg3 hi29 rfl rfl rfl) ?_
                  refine okL_guard 23 (tI y14) 17 (decide (s21 > 0)) rfl rfl hb23 rfl rfl (does_move rfl) ?_
                  refine okL_guard 24 (tB (decide (y28 ≥ y14))) 17 (decide (s21 > 0)) rfl rfl hb23 rfl rfl (does_geq rfl rfl) ?_
                  refine okL_step 25 (tB (decide (y28 ≥ y14))) rfl rfl (does_pick_t (decide (s21 > 0)) rfl hb23 rfl) ?_
                  refine okL_nil ?_
                  exact okX_meet (I := _) (decide (y28 ≥ y14)) (smh h26) (cc rfl (cc rfl (cc rfl (cc rfl (cc rfl (cc rfl (cc rfl cn))))))) rfl
                · replace h26 := cf hb23 h26
                  refine okL_skip 18 17 (decide (s21 > 0)) rfl rfl hb23 rfl rfl ?_
                  refine okL_skip 19 17 (decide (s21 > 0)) rfl rfl hb23 rfl rfl ?_
                  refine okL_skip 20 17 (decide (s21 > 0)) rfl rfl hb23 rfl rfl ?_
                  refine okL_skip 21 17 (decide (s21 > 0)) rfl rfl hb23 rfl rfl ?_
                  refine okL_skip 22 17 (decide (s21 > 0)) rfl rfl hb23 rfl rfl ?_
                  refine okL_skip 23 17 (decide (s21 > 0)) rfl rfl hb23 rfl rfl ?_
                  refine okL_skip 24 17 (decide (s21 > 0)) rfl rfl hb23 rfl rfl ?_
                  refine okL_step 25 (tB false) rfl rfl (does_pick_f (decide (s21 > 0)) rfl hb23 rfl) ?_
                  refine okL_nil ?_
                  exact okX_meet (I := _) false (smh h26) (cc rfl (cc rfl (cc rfl (cc rfl (cc rfl (cc rfl (cc rfl cn))))))) rfl
              · intro x27 hx
                obtain rfl : x27 = z24 := hx.symm
                replace h := hz25
                change OkL _ _ _ _ [(3, (Ty.own w7)), (5, (tI y14)), (6, (tI s21)), (7, (tL 1 lI a0)), (8, (tI ((a0).length : Int))), (9, (tI s6.1)), (25, (tB x27))] (rowL w7 3 1 lI s6.2 :: L)
                refine okL_nil ?_
                refine okX_next ?_
                refine okC_cond (b := x27) rfl (fun hb30 => ?_) (fun hb30 => ?_)
                · replace h := ct hb30 h
                  refine okC_skip ?_
                  refine okX_next ?_
                  refine okC_block ?_
                  refine okC_region ?_
                  refine okL_step 26 (tI s21) rfl rfl (does_move rfl) ?_
                  refine okL_step 27 (tI (w64 (s21 - 1))) rfl rfl (does_sub rfl rfl) ?_
                  refine okL_step 6 (tI (w64 (s21 - 1))) rfl rfl (does_assign rfl) ?_
                  refine okL_nil ?_
                  refine okX_block_normal ?_
                  exact okX_again k (Nat.lt_succ_self k) (w64 (s21 - 1)) h (cc rfl (cc rfl (cc rfl (cc rfl (cc rfl (cc rfl cn)))))) rfl
                · replace h := cf hb30 h
                  refine okC_exit ?_
                  refine okX_then_exit ?_
                  refine okX_again_exit ?_
                  refine okX_block_hit ?_
                  exact okX_meet (I := _) s21 (smh h) (cc rfl (cc rfl (cc rfl (cc rfl (cc rfl (cc rfl cn)))))) rfl
          · intro s16 hx
            change OkC _ _ _ [(3, (Ty.own w7)), (5, (tI y14)), (6, (tI s16)), (7, (tL 1 lI a0)), (8, (tI ((a0).length : Int))), (9, (tI s6.1))] (rowL w7 3 1 lI s6.2 :: L)
            obtain rfl : s16 = z18 := hx.symm
            replace h13 := hz19
            refine okC_seq ?_
            refine okC_seq ?_
            refine okC_region ?_
            refine okL_step 28 (tI s16) rfl rfl (does_move rfl) ?_
            refine okL_step 29 (Ty.own w7) rfl rfl (does_move rfl) ?_
            refine okL_step 30 (tI ((s6.2).length : Int)) rfl rfl (does_lenR rfl Tryd.underlying31 0 rfl rfl) ?_
            refine okL_step 31 (tB (decide (s16 < ((s6.2).length : Int)))) rfl rfl (does_lss rfl rfl) ?_
            refine okL_step 32 (tB (decide (s16 < ((s6.2).length : Int)))) rfl rfl (does_move rfl) ?_
            obtain ⟨z32, h34, hz33⟩ := bs h13
            refine okL_meet (X := Bool) 7 (fun x => z32 = x) (fun x : Bool => [(3, (Ty.own w7)), (5, (tI y14)), (6, (tI s16)), (7, (tL 1 lI a0)), (8, (tI ((a0).length : Int))), (9, (tI s6.1)), (39, (tB x))]) (fun x : Bool => rowL w7 3 1 lI s6.2 :: L) _ rfl ?_ ?_
            · refine okL_split (decide (s16 < ((s6.2).length : Int))) (fun hb31 => ?_) (fun hb31 => ?_)
              · replace h34 := ct hb31 h34
                refine okL_guard 33 (Ty.own w7) 32 (decide (s16 < ((s6.2).length : Int))) rfl rfl hb31 rfl rfl (does_move rfl) ?_
                refine okL_guard 34 (tI s16) 32 (decide (s16 < ((s6.2).length : Int))) rfl rfl hb31 rfl rfl (does_move rfl) ?_
                obtain ⟨y36, hi37, h34⟩ := bs h34
                refine okL_guard 35 (Ty.rptr w7 (s16.toNat * 1)) 32 (decide (s16 < ((s6.2).length : Int))) rfl rfl hb31 rfl rfl (does_indexR (f := lI) (l := s6.2) (m := s16) el31 0 y36 hi37 rfl rfl rfl) ?_
                refine okL_guard 36 (tI y36) 32 (decide (s16 < ((s6.2).length : Int))) rfl rfl hb31 rfl rfl (does_loadR1 (sz := 1) (f := lI) (l := s6.2) 0 y36 0 Tryd.isAgg3 hi37 rfl rfl rfl) ?_
                refine okL_guard 37 (tI y14) 32 (decide (s16 < ((s6.2).length : Int))) rfl rfl hb31 rfl rfl (does_move rfl) ?_
                refine okL_guard 38 (tB (y36 == y14)) 32 (decide (s16 < ((s6.2).length : Int))) rfl rfl hb31 rfl rfl (does_eql rfl rfl) ?_
                refine okL_step 39 (tB (y36 == y14)) rfl rfl (does_pick_t (decide (s16 < ((s6.2).length : Int))) rfl hb31 rfl) ?_
                refine okL_nil ?_
                exact okX_meet (I := _) (y36 == y14) (smh h34) (cc rfl (cc rfl (cc rfl (cc rfl (cc rfl (cc rfl (cc rfl cn))))))) rfl
              · replace h34 := cf hb31 h34
                refine okL_skip 33 32 (decide (s16 < ((s6.2).length : Int))) rfl rfl hb31 rfl rfl ?_
                refine okL_skip 34 32 (decide (s16 < ((s6.2).length : Int))) rfl rfl hb31 rfl rfl ?_
                refine okL_skip 35 32 (decide (s16 < ((s6.2).length : Int))) rfl rfl hb31 rfl rfl ?_
                refine okL_skip 36 32 (decide (s16 < ((s6.2).length : Int))) rfl rfl hb31 rfl rfl ?_
                refine okL_skip 37 32 (decide (s16 < ((s6.2).length : Int))) rfl rfl hb31 rfl rfl ?_
                refine okL_skip 38 32 (decide (s16 < ((s6.2).length : Int))) rfl rfl hb31 rfl rfl ?_
                refine okL_step 39 (tB false) rfl rfl (does_pick_f (decide (s16 < ((s6.2).length : Int))) rfl hb31 rfl) ?_
                refine okL_nil ?_
                exact okX_meet (I := _) false (smh h34) (cc rfl (cc rfl (cc rfl (cc rfl (cc rfl (cc rfl (cc rfl cn))))))) rfl
            · intro x35 hx
              obtain rfl : x35 = z32 := hx.symm
              replace h13 := hz33
              change OkL _ _ _ _ [(3, (Ty.own w7)), (5, (tI y14)), (6, (tI s16)), (7, (tL 1 lI a0)), (8, (tI ((a0).length : Int))), (9, (tI s6.1)), (39, (tB x35))] (rowL w7 3 1 lI s6.2 :: L)
              refine okL_nil ?_
              refine okX_next ?_
              refine okC_cond (b := x35) rfl (fun hb38 => ?_) (fun hb38 => ?_)
              · replace h13 := ct hb38 h13
                refine okC_exit ?_
                refine okX_then_exit ?_
                refine okX_block_hit ?_
                exact okX_meet (I := _) (s6.2, w7) (smh h13) (cc rfl (cc rfl (cc rfl (cc rfl cn)))) rfl
              · replace h13 := cf hb38 h13
                refine okC_skip ?_
                refine okX_next ?_
                refine okC_seq ?_
                refine okC_region ?_
                refine okL_step 40 (Ty.own w7) rfl rfl (does_move rfl) ?_
                refine okL_step 41 (tL 1 lI ([0] : List Int)) rfl rfl (does_buildSlice (f := lI) ([0] : List Int) [(tI 0)] el31 rfl rfl rfl (fc [(tI 0)] 0 rfl (part_one (one_i _)) rfl rfl (fn_ rfl)) rfl (fun _ => rfl)) ?_
                obtain ⟨l39, ha40, h13⟩ := bs h13
                refine okL_stepO 42 rfl rfl (doesO_append (f := lI) (l := s6.2) (m := ([0] : List Int)) el31 0 l39 (fun v41 => rowL v41 3 1 lI l39 :: L) ha40 rfl rfl rfl (fun _ => rfl) (fun v41 => ?_))
                refine okL_step 3 (Ty.own v41) rfl rfl (does_assign rfl) ?_
                refine okL_nil ?_
                refine okX_next ?_
                refine okC_seq ?_
                refine okC_cov [(3, (Ty.own v41)), (5, (tI y14)), (6, (tI s16)), (7, (tL 1 lI a0)), (8, (tI ((a0).length : Int))), (9, (tI s6.1))] (cc rfl (cc rfl (cc rfl (cc rfl (cc rfl (cc rfl cn)))))) ?_
                obtain ⟨l42, hs43, h13⟩ := bs h13
                obtain ⟨hg44, h13⟩ := gs h13
                obtain ⟨l45, hs46, h13⟩ := bs h13
                obtain ⟨hg47, h13⟩ := gs h13
                refine okC_draw 7 [some (43, (Ty.own v41)), some (44, (tI s16)), some (45, (tI (w64 (s16 + 1)))), some (46, (Ty.srow v41 (w64 (s16 + 1)).toNat)), some (47, (Ty.own v41)), some (48, (tI s16)), some (49, (Ty.srow v41 s16.toNat))] ⟨rowL v41 3 1 lI l39 :: ([] : List Item), rowL v41 3 1 lI l39 :: ([] : List Item), []⟩ [] mixed rfl rfl (by kernel_rfl) rfl (by kernel_rfl) rfl rfl rfl (fun _ h => List.Sublist.subset (.cons_cons _ (List.nil_sublist _)) h) (fun _ h => List.Sublist.subset (.cons_cons _ (List.nil_sublist _)) h) rfl (by kernel_rfl) (.inr ⟨by kernel_rfl, by kernel_rfl⟩) (by kernel_rfl) (by kernel_rfl) (dc (draw_plain rfl (does_move rfl)) (dc (draw_plain rfl (does_move rfl)) (dc (draw_plain rfl (does_add rfl rfl)) (dc (draw_plain rfl (does_subLoR (f := lI) (l := l39) (m := (w64 (s16 + 1))) 0 l42 hs43 hg44 Tryd.underlying31 Tryd.sizeOf3 rfl rfl rfl)) (dc (draw_plain rfl (does_move rfl)) (dc (draw_plain rfl (does_move rfl)) (dc (draw_plain rfl (does_subLoR (f := lI) (l := l39) (m := s16) 0 l45 hs46 hg47 Tryd.underlying31 Tryd.sizeOf3 rfl rfl rfl)) (dn)))))))) ?_
                refine ch_end ?_
                change OkL _ _ _ _ [(43, (Ty.own v41)), (44, (tI s16)), (45, (tI (w64 (s16 + 1)))), (46, (Ty.srow v41 (w64 (s16 + 1)).toNat)), (47, (Ty.own v41)), (48, (tI s16)), (49, (Ty.srow v41 s16.toNat)), (3, (Ty.own v41)), (5, (tI y14)), (6, (tI s16)), (7, (tL 1 lI a0)), (8, (tI ((a0).length : Int))), (9, (tI s6.1))] (rowL v41 3 1 lI l39 :: L)
                obtain ⟨hg48, h13⟩ := gs h13
                refine okL_stepO 50 rfl rfl (doesO_copyR (f := lI) (l := l39) (i := (w64 (s16 + 1)).toNat) (j := s16.toNat) 0 (cpy l39 (w64 (s16 + 1)).toNat s16.toNat) (rowL v41 3 1 lI (cpy l39 (w64 (s16 + 1)).toNat s16.toNat) :: L) rfl hg48 el31 rfl rfl rfl rfl ?_)
                refine okL_nil ?_
                refine okX_next ?_
                refine okC_region ?_
                refine okL_step 51 (Ty.own v41) rfl rfl (does_move rfl) ?_
                refine okL_step 52 (tI s16) rfl rfl (does_move rfl) ?_
                refine okL_step 53 (tI y14) rfl rfl (does_move rfl) ?_
                obtain ⟨y49, hi50, h13⟩ := bs h13
                refine okL_step 54 (Ty.rptr v41 (s16.toNat * 1)) rfl rfl (does_indexR (f := lI) (l := (cpy l39 (w64 (s16 + 1)).toNat s16.toNat)) (m := s16) el31 0 y49 hi50 rfl rfl rfl) ?_
                refine okL_stepU rfl (doesO_storeR (f := lI) (l := (cpy l39 (w64 (s16 + 1)).toNat s16.toNat)) (sz := 1) (ps := [(tI y14)]) (y0 := y49) (y1 := y14) (m := s16) 0 0 ((cpy l39 (w64 (s16 + 1)).toNat s16.toNat).set s16.toNat y14) (rowL v41 3 1 lI ((cpy l39 (w64 (s16 + 1)).toNat s16.toNat).set s16.toNat y14) :: L) rfl rfl (part_one (one_i _)) Tryd.sizeOf3 rfl hi50 rfl rfl rfl rfl rfl ?_)
                refine okL_nil ?_
                refine okX_block_normal ?_
                exact okX_meet (I := _) (((cpy l39 (w64 (s16 + 1)).toNat s16.toNat).set s16.toNat y14), v41) (smh h13) (cc rfl (cc rfl (cc rfl (cc rfl cn)))) rfl
        · intro x hx
          obtain ⟨s9, w10⟩ := x
          change OkC _ _ _ [(3, (Ty.own w10)), (7, (tL 1 lI a0)), (8, (tI ((a0).length : Int))), (9, (tI s6.1))] (rowL w10 3 1 lI s9 :: L)
          obtain rfl : s9 = z11 := hx.symm
          replace h := hz12
          refine okC_region ?_
          refine okL_step 55 (tI (w64 (s6.1 + 1))) rfl rfl (does_add rfl rfl) ?_
          refine okL_step 9 (tI (w64 (s6.1 + 1))) rfl rfl (does_move rfl) ?_
          refine okL_nil ?_
          exact okX_again k (Nat.lt_succ_self k) (((w64 (s6.1 + 1)), s9), w10) h (cc rfl (cc rfl (cc rfl (cc rfl cn)))) rfl
      · replace h := cf hb8 h
        refine okC_exit ?_
        refine okX_then_exit ?_
        refine okX_again_exit ?_
        refine okX_block_hit ?_
        exact okX_meet (I := _) (s6.2, w7) (smh h) (cc rfl cn) rfl
  · intro x hx
    obtain ⟨s1, w2⟩ := x
    change OkX _ _ _ [(3, (Ty.own w2))] (rowL w2 3 1 lI s1 :: L)
    obtain rfl : s1 = z3 := hx.symm
    replace h := hz4
    refine okX_next ?_
    refine okC_seq ?_
    refine okC_region ?_
    refine okL_step 56 (Ty.own w2) rfl rfl (does_move rfl) ?_
    refine okL_step 2 (Ty.own w2) rfl rfl (does_assign rfl) ?_
    refine okL_nil ?_
    refine okX_next ?_
    refine okC_ret ?_
    obtain rfl := (smh h).symm
    exact okX_ret1 w2 Tryd.results121 rfl rfl

theorem d_vcode_unique (K : Nat) (a0 : (List Int)) (r : (List Int)) (h : vcode_unique K a0 = some r) : CallP Tryd.prog glob 121 [(tL 1 lI a0)] (tL 1 lI r) := callP_of_own (c_vcode_unique K a0 r h)

def vcode_Successors (K : Nat) (a0 : Block) : Option (List Int) :=
  (cnd (a0.End == 1) (some ([a0.Target] : List Int)) (cnd (a0.End == 2) (Option.bind (vcode_unique K ([a0.Target, a0.Else] : List Int)) (fun r4 => (some r4))) (some ([] : List Int))))

theorem c_vcode_Successors (K : Nat) (a0 : Block) (r : (List Int)) (h : vcode_Successors K a0 = some r) : CallP Tryd.prog glob 104 [(Ty.agg [(tL 6 VInstr.ty a0.Instrs), (tI a0.End), (tI a0.Reg), (tI a0.Target), (tI a0.Else)])] (tL 1 lI r) := by
  refine call_of_code Tryd.func104 rfl Tryd.ntmps104 rfl (fun L w => ?_)
  change OkC _ _ _ [(0, (Ty.agg [(tL 6 VInstr.ty a0.Instrs), (tI a0.End), (tI a0.Reg), (tI a0.Target), (tI a0.Else)]))] (L)
  unfold vcode_Successors at h
  refine okC_seq ?_
  refine okC_region ?_
  refine okL_stepO 1 rfl rfl (doesO_box [(tL 6 VInstr.ty a0.Instrs), (tI a0.End), (tI a0.Reg), (tI a0.Target), (tI a0.Else)] rfl (part_agg _) (fun g1 => ?_))
  refine okL_step 2 (Ty.val (.slice none 0 0)) rfl rfl (does_assign rfl) ?_
  refine okL_nil ?_
  refine okX_next ?_
  refine okC_seq ?_
  refine okC_seq ?_
  refine okC_region ?_
  refine okL_step 3 (pAt g1 1) rfl rfl (does_fieldAddrP 1 Tryd.underlying43 rfl Tryd.sizeOf3 rfl rfl) ?_
  refine okL_step 4 (tI a0.End) rfl rfl (does_loadB1 Tryd.isAgg3 rfl 0 rfl rfl) ?_
  refine okL_nil ?_
  refine okX_next ?_
  refine okC_block ?_
  refine okC_seq ?_
  refine okC_region ?_
  refine okL_step 6 (tB (a0.End == 1)) rfl rfl (does_eql rfl rfl) ?_
  refine okL_step 5 (tB (a0.End == 1)) rfl rfl (does_assign rfl) ?_
  refine okL_nil ?_
  refine okX_next ?_
  refine okC_cond (b := (a0.End == 1)) rfl (fun hb2 => ?_) (fun hb2 => ?_)
  · replace h := ct hb2 h
    refine okC_seq ?_
    refine okC_region ?_
    refine okL_step 7 (pAt g1 3) rfl rfl (does_fieldAddrP 3 Tryd.underlying43 rfl Tryd.sizeOf3 rfl rfl) ?_
    refine okL_step 8 (tI a0.Target) rfl rfl (does_loadB1 Tryd.isAgg3 rfl 0 rfl rfl) ?_
    refine okL_step 9 (tL 1 lI ([a0.Target] : List Int)) rfl rfl (does_buildSlice (f := lI) ([a0.Target] : List Int) [(tI a0.Target)] el31 rfl rfl rfl (fc [(tI a0.Target)] 0 rfl (part_one (one_i _)) rfl rfl (fn_ rfl)) rfl (fun _ => rfl)) ?_
    refine okL_step 2 (tL 1 lI ([a0.Target] : List Int)) rfl rfl (does_assign rfl) ?_
    refine okL_nil ?_
    refine okX_next ?_
    refine okC_ret ?_
    refine okX_block_ret ?_
    refine okX_then_ret ?_
    obtain rfl := (smh h).symm
    refine okX_items [Item.blk g1 43 [(tL 6 VInstr.ty a0.Instrs), (tI a0.End), (tI a0.Reg), (tI a0.Target), (tI a0.Else)]] (L) (pm 0 rfl (pr _)) ?_
    exact okX_ret1 () Tryd.results104 rfl rfl
  · replace h := cf hb2 h
    refine okC_seq ?_
    refine okC_region ?_
    refine okL_step 11 (tB (a0.End == 2)) rfl rfl (does_eql rfl rfl) ?_
    refine okL_step 10 (tB (a0.End == 2)) rfl rfl (does_assign rfl) ?_
    refine okL_nil ?_
    refine okX_next ?_
    refine okC_cond (b := (a0.End == 2)) rfl (fun hb3 => ?_) (fun hb3 => ?_)
    · replace h := ct hb3 h
      refine okC_seq ?_
      refine okC_region ?_
      refine okL_step 12 (pAt g1 3) rfl rfl (does_fieldAddrP 3 Tryd.underlying43 rfl Tryd.sizeOf3 rfl rfl) ?_
      refine okL_step 13 (tI a0.Target) rfl rfl (does_loadB1 Tryd.isAgg3 rfl 0 rfl rfl) ?_
      refine okL_step 14 (pAt g1 4) rfl rfl (does_fieldAddrP 4 Tryd.underlying43 rfl Tryd.sizeOf3 rfl rfl) ?_
      refine okL_step 15 (tI a0.Else) rfl rfl (does_loadB1 Tryd.isAgg3 rfl 0 rfl rfl) ?_
      refine okL_step 16 (tL 1 lI ([a0.Target, a0.Else] : List Int)) rfl rfl (does_buildSlice (f := lI) ([a0.Target, a0.Else] : List Int) [(tI a0.Target), (tI a0.Else)] el31 rfl rfl rfl (fc [(tI a0.Target)] 0 rfl (part_one (one_i _)) rfl rfl (fc [(tI a0.Else)] 1 rfl (part_one (one_i _)) rfl rfl (fn_ rfl))) rfl (fun _ => rfl)) ?_
      obtain ⟨r4, hc5, h⟩ := bs h
      refine okL_step 17 (tL 1 lI r4) rfl rfl (does_call0 (d_vcode_unique K ([a0.Target, a0.Else] : List Int) r4 hc5) rfl Tryd.call121 rfl) ?_
      refine okL_step 2 (tL 1 lI r4) rfl rfl (does_assign rfl) ?_
      refine okL_nil ?_
      refine okX_next ?_
      refine okC_ret ?_
      refine okX_block_ret ?_
      refine okX_then_ret ?_
      obtain rfl := (smh h).symm
      refine okX_items [Item.blk g1 43 [(tL 6 VInstr.ty a0.Instrs), (tI a0.End), (tI a0.Reg), (tI a0.Target), (tI a0.Else)]] (L) (pm 0 rfl (pr _)) ?_
      exact okX_ret1 () Tryd.results104 rfl rfl
    · replace h := cf hb3 h
      refine okC_skip ?_
      refine okX_block_normal ?_
      refine okX_next ?_
      refine okC_seq ?_
      refine okC_region ?_
      refine okL_step 2 (Ty.val (.slice none 0 0)) rfl rfl (does_assign rfl) ?_
      refine okL_nil ?_
      refine okX_next ?_
      refine okC_ret ?_
      obtain rfl := (smh h).symm
      refine okX_sub 2 (tL 1 lI ([] : List Int)) rfl (sub_nil _) ?_
      refine okX_items [Item.blk g1 43 [(tL 6 VInstr.ty a0.Instrs), (tI a0.End), (tI a0.Reg), (tI a0.Target), (tI a0.Else)]] (L) (pm 0 rfl (pr _)) ?_
      exact okX_ret1 () Tryd.results104 rfl rfl

def vcode_Reads (K : Nat) (a0 : VInstr) : Option (List Int) :=
  (Option.bind (vcode_allowed a0.Instr.Op) (fun r2 => (cnd (!r2) (some ([] : List Int)) (Option.bind (machine_Info a0.Instr.Op) (fun r5 => (Option.bind (cnd r5.1.ReadsA (Option.bind (app 8 ([] : List Int) ([a0.Instr.A] : List Int)) (fun l14 => (some l14))) (some ([] : List Int))) (fun s8 => (Option.bind (cnd r5.1.ReadsB (Option.bind (app 8 s8 ([a0.Instr.B] : List Int)) (fun l23 => (some l23))) (some s8)) (fun s17 => (Option.bind (cnd ((a0.Instr.Op == 11) || (a0.Instr.Op == 12)) (Option.bind (app 8 s17 ([a0.Instr.C] : List Int)) (fun l33 => (some l33))) (some s17)) (fun s26 => (Option.bind (cnd (a0.Instr.Op == 6) (Option.bind (app 8 s26 a0.Args) (fun l43 => (some l43))) (some s26)) (fun s37 => (Option.bind (vcode_unique K s37) (fun r46 => (some r46))))))))))))))))

theorem c_vcode_Reads (K : Nat) (a0 : VInstr) (r : (List Int)) (h : vcode_Reads K a0 = some r) : CallOk Tryd.prog glob 95 [(Ty.agg [(tI a0.Instr.Op), (tI a0.Instr.A), (tI a0.Instr.B), (tI a0.Instr.C), (tI a0.Instr.N), (tL 1 lI a0.Args)])] [] Value (fun x : Value => ((Ty.own x), [rowL x 3 1 lI r])) := by
  refine call_of_code Tryd.func95 rfl Tryd.ntmps95 rfl (fun L w => ?_)
  change OkC _ _ _ [(0, (Ty.agg [(tI a0.Instr.Op), (tI a0.Instr.A), (tI a0.Instr.B), (tI a0.Instr.C), (tI a0.Instr.N), (tL 1 lI a0.Args)]))] (L)
  unfold vcode_Reads at h
  refine okC_seq ?_
  refine okC_region ?_
  refine okL_stepO 1 rfl rfl (doesO_box [(tI a0.Instr.Op), (tI a0.Instr.A), (tI a0.Instr.B), (tI a0.Instr.C), (tI a0.Instr.N), (tL 1 lI a0.Args)] rfl (part_agg _) (fun g1 => ?_))
  refine okL_step 2 (Ty.val (.slice none 0 0)) rfl rfl (does_assign rfl) ?_
  refine okL_nil ?_
  refine okX_next ?_
  refine okC_seq ?_
  refine okC_seq ?_
  refine okC_region ?_
  refine okL_step 6 (pAt g1 0) rfl rfl (does_fieldAddrP 0 Tryd.underlying48 rfl Tryd.sizeOf46 rfl rfl) ?_
  refine okL_step 7 (pAt g1 0) rfl rfl (does_fieldAddrP 0 Tryd.underlying46 rfl Tryd.sizeOf3 rfl rfl) ?_
  refine okL_step 8 (tI a0.Instr.Op) rfl rfl (does_loadB1 Tryd.isAgg3 rfl 0 rfl rfl) ?_
  obtain ⟨r2, hc3, h⟩ := bs h
  refine okL_step 9 (tB r2) rfl rfl (does_call0 (c_vcode_allowed a0.Instr.Op r2 hc3) rfl Tryd.call119 rfl) ?_
  refine okL_step 10 (tB (!r2)) rfl rfl (does_not rfl) ?_
  refine okL_nil ?_
  refine okX_next ?_
  refine okC_cond (b := (!r2)) rfl (fun hb4 => ?_) (fun hb4 => ?_)
  · replace h := ct hb4 h
    refine okC_seq ?_
    refine okC_region ?_
    refine okL_step 2 (Ty.val (.slice none 0 0)) rfl rfl (does_assign rfl) ?_
    refine okL_nil ?_
    refine okX_next ?_
    refine okC_ret ?_
    refine okX_then_ret ?_
    obtain rfl := (smh h).symm
    refine okX_nilrow (sz := 1) lI 3 2 rfl ?_
    refine okX_items [Item.blk g1 48 [(tI a0.Instr.Op), (tI a0.Instr.A), (tI a0.Instr.B), (tI a0.Instr.C), (tI a0.Instr.N), (tL 1 lI a0.Args)]] (rowL (.slice none 0 0) 3 1 lI ([] : List Int) :: L) (pm 1 rfl (pm 0 rfl (pr _))) ?_
    exact okX_ret1 (.slice none 0 0) Tryd.results95 rfl rfl
  · replace h := cf hb4 h
    refine okC_skip ?_
    refine okX_next ?_
    refine okC_seq ?_
    refine okC_region ?_
    refine okL_step 12 (pAt g1 0) rfl rfl (does_fieldAddrP 0 Tryd.underlying48 rfl Tryd.sizeOf46 rfl rfl) ?_
    refine okL_step 13 (pAt g1 0) rfl rfl (does_fieldAddrP 0 Tryd.underlying46 rfl Tryd.sizeOf3 rfl rfl) ?_
    refine okL_step 14 (tI a0.Instr.Op) rfl rfl (does_loadB1 Tryd.isAgg3 rfl 0 rfl rfl) ?_
    obtain ⟨r5, hc6, h⟩ := bs h
    refine okL_step 15 (Ty.tup [(Ty.agg [(tS r5.1.Name), (tI r5.1.Form), (tB r5.1.ReadsA), (tB r5.1.WritesA), (tB r5.1.ReadsB), (tB r5.1.MayTrap), (tI r5.1.Words)]), (tB r5.2)]) rfl rfl (does_call0 (c_machine_Info a0.Instr.Op r5 hc6) rfl Tryd.call120 rfl) ?_
    refine okL_step 11 (Ty.tup [(Ty.agg [(tS r5.1.Name), (tI r5.1.Form), (tB r5.1.ReadsA), (tB r5.1.WritesA), (tB r5.1.ReadsB), (tB r5.1.MayTrap), (tI r5.1.Words)]), (tB r5.2)]) rfl rfl (does_move rfl) ?_
    refine okL_step 16 (Ty.agg [(tS r5.1.Name), (tI r5.1.Form), (tB r5.1.ReadsA), (tB r5.1.WritesA), (tB r5.1.ReadsB), (tB r5.1.MayTrap), (tI r5.1.Words)]) rfl rfl (does_extract rfl rfl) ?_
    refine okL_step 17 (tB r5.2) rfl rfl (does_extract rfl rfl) ?_
    refine okL_stepO 3 rfl rfl (doesO_alloc [(tS ⟨#[]⟩), (tI 0), (tB false), (tB false), (tB false), (tB false), (tI 0)] Tryd.zeroValue113 (part_of (sub_agg [(.string ⟨#[]⟩), (.int .i64 0), (.bool false), (.bool false), (.bool false), (.bool false), (.int .i64 0)] rfl) (part_agg _)) (fun g7 => ?_))
    refine okL_stepU rfl (doesO_storeB (ps := [(tS r5.1.Name), (tI r5.1.Form), (tB r5.1.ReadsA), (tB r5.1.WritesA), (tB r5.1.ReadsB), (tB r5.1.MayTrap), (tI r5.1.Words)]) 0 [(tS r5.1.Name), (tI r5.1.Form), (tB r5.1.ReadsA), (tB r5.1.WritesA), (tB r5.1.ReadsB), (tB r5.1.MayTrap), (tI r5.1.Words)] (Item.blk g7 113 [(tS r5.1.Name), (tI r5.1.Form), (tB r5.1.ReadsA), (tB r5.1.WritesA), (tB r5.1.ReadsB), (tB r5.1.MayTrap), (tI r5.1.Words)] :: Item.blk g1 48 [(tI a0.Instr.Op), (tI a0.Instr.A), (tI a0.Instr.B), (tI a0.Instr.C), (tI a0.Instr.N), (tL 1 lI a0.Args)] :: L) rfl rfl (part_agg _) Tryd.sizeOf113 rfl rfl rfl rfl ?_)
    refine okL_step 4 (tB r5.2) rfl rfl (does_assign rfl) ?_
    refine okL_nil ?_
    refine okX_next ?_
    refine okC_seq ?_
    refine okC_region ?_
    refine okL_step 5 (Ty.val (.slice none 0 0)) rfl rfl (does_assign rfl) ?_
    refine okL_nil ?_
    refine okX_next ?_
    refine okC_nilrow (sz := 1) lI 3 5 rfl ?_
    obtain ⟨z10, h12, hz11⟩ := bs h
    refine okC_meet (X := ((List Int) × Value)) (fun x => z10 = x.1) (fun x : ((List Int) × Value) => [(1, (pAt g1 0)), (3, (pAt g7 0)), (5, (Ty.own x.2))]) (fun x : ((List Int) × Value) => rowL x.2 3 1 lI x.1 :: Item.blk g7 113 [(tS r5.1.Name), (tI r5.1.Form), (tB r5.1.ReadsA), (tB r5.1.WritesA), (tB r5.1.ReadsB), (tB r5.1.MayTrap), (tI r5.1.Words)] :: Item.blk g1 48 [(tI a0.Instr.Op), (tI a0.Instr.A), (tI a0.Instr.B), (tI a0.Instr.C), (tI a0.Instr.N), (tL 1 lI a0.Args)] :: L) ?_ ?_
    · refine okC_seq ?_
      refine okC_region ?_
      refine okL_step 18 (pAt g7 2) rfl rfl (does_fieldAddrP 2 Tryd.underlying113 rfl Tryd.sizeOf4 rfl rfl) ?_
      refine okL_step 19 (tB r5.1.ReadsA) rfl rfl (does_loadB1 Tryd.isAgg4 rfl 1 rfl rfl) ?_
      refine okL_nil ?_
      refine okX_next ?_
      refine okC_cond (b := r5.1.ReadsA) rfl (fun hb13 => ?_) (fun hb13 => ?_)
      · replace h12 := ct hb13 h12
        refine okC_region ?_
        refine okL_step 20 (Ty.own (.slice none 0 0)) rfl rfl (does_move rfl) ?_
        refine okL_step 21 (pAt g1 0) rfl rfl (does_fieldAddrP 0 Tryd.underlying48 rfl Tryd.sizeOf46 rfl rfl) ?_
        refine okL_step 22 (pAt g1 1) rfl rfl (does_fieldAddrP 1 Tryd.underlying46 rfl Tryd.sizeOf3 rfl rfl) ?_
        refine okL_step 23 (tI a0.Instr.A) rfl rfl (does_loadB1 Tryd.isAgg3 rfl 2 rfl rfl) ?_
        refine okL_step 24 (tL 1 lI ([a0.Instr.A] : List Int)) rfl rfl (does_buildSlice (f := lI) ([a0.Instr.A] : List Int) [(tI a0.Instr.A)] el31 rfl rfl rfl (fc [(tI a0.Instr.A)] 0 rfl (part_one (one_i _)) rfl rfl (fn_ rfl)) rfl (fun _ => rfl)) ?_
        obtain ⟨l14, ha15, h12⟩ := bs h12
        refine okL_stepO 25 rfl rfl (doesO_append (f := lI) (l := ([] : List Int)) (m := ([a0.Instr.A] : List Int)) el31 0 l14 (fun v16 => rowL v16 3 1 lI l14 :: Item.blk g7 113 [(tS r5.1.Name), (tI r5.1.Form), (tB r5.1.ReadsA), (tB r5.1.WritesA), (tB r5.1.ReadsB), (tB r5.1.MayTrap), (tI r5.1.Words)] :: Item.blk g1 48 [(tI a0.Instr.Op), (tI a0.Instr.A), (tI a0.Instr.B), (tI a0.Instr.C), (tI a0.Instr.N), (tL 1 lI a0.Args)] :: L) ha15 rfl rfl rfl (fun _ => rfl) (fun v16 => ?_))
        refine okL_step 5 (Ty.own v16) rfl rfl (does_assign rfl) ?_
        refine okL_nil ?_
        exact okX_meet (I := _) (l14, v16) (smh h12) (cc rfl (cc rfl (cc rfl cn))) rfl
      · replace h12 := cf hb13 h12
        refine okC_skip ?_
        exact okX_meet (I := _) (([] : List Int), (.slice none 0 0)) (smh h12) (cc rfl (cc rfl (cc rfl cn))) rfl
    · intro x hx
      obtain ⟨s8, w9⟩ := x
      change OkC _ _ _ [(1, (pAt g1 0)), (3, (pAt g7 0)), (5, (Ty.own w9))] (rowL w9 3 1 lI s8 :: Item.blk g7 113 [(tS r5.1.Name), (tI r5.1.Form), (tB r5.1.ReadsA), (tB r5.1.WritesA), (tB r5.1.ReadsB), (tB r5.1.MayTrap), (tI r5.1.Words)] :: Item.blk g1 48 [(tI a0.Instr.Op), (tI a0.Instr.A), (tI a0.Instr.B), (tI a0.Instr.C), (tI a0.Instr.N), (tL 1 lI a0.Args)] :: L)
      obtain rfl : s8 = z10 := hx.symm
      replace h := hz11
      obtain ⟨z19, h21, hz20⟩ := bs h
      refine okC_meet (X := ((List Int) × Value)) (fun x => z19 = x.1) (fun x : ((List Int) × Value) => [(1, (pAt g1 0)), (5, (Ty.own x.2))]) (fun x : ((List Int) × Value) => rowL x.2 3 1 lI x.1 :: Item.blk g7 113 [(tS r5.1.Name), (tI r5.1.Form), (tB r5.1.ReadsA), (tB r5.1.WritesA), (tB r5.1.ReadsB), (tB r5.1.MayTrap), (tI r5.1.Words)] :: Item.blk g1 48 [(tI a0.Instr.Op), (tI a0.Instr.A), (tI a0.Instr.B), (tI a0.Instr.C), (tI a0.Instr.N), (tL 1 lI a0.Args)] :: L) ?_ ?_
      · refine okC_seq ?_
        refine okC_region ?_
        refine okL_step 26 (pAt g7 4) rfl rfl (does_fieldAddrP 4 Tryd.underlying113 rfl Tryd.sizeOf4 rfl rfl) ?_
        refine okL_step 27 (tB r5.1.ReadsB) rfl rfl (does_loadB1 Tryd.isAgg4 rfl 1 rfl rfl) ?_
        refine okL_nil ?_
        refine okX_next ?_
        refine okC_cond (b := r5.1.ReadsB) rfl (fun hb22 => ?_) (fun hb22 => ?_)
        · replace h21 := ct hb22 h21
          refine okC_region ?_
          refine okL_step 28 (Ty.own w9) rfl rfl (does_move rfl) ?_
          refine okL_step 29 (pAt g1 0) rfl rfl (does_fieldAddrP 0 Tryd.underlying48 rfl Tryd.sizeOf46 rfl rfl) ?_
          refine okL_step 30 (pAt g1 2) rfl rfl (does_fieldAddrP 2 Tryd.underlying46 rfl Tryd.sizeOf3 rfl rfl) ?_
          refine okL_step 31 (tI a0.Instr.B) rfl rfl (does_loadB1 Tryd.isAgg3 rfl 2 rfl rfl) ?_
          refine okL_step 32 (tL 1 lI ([a0.Instr.B] : List Int)) rfl rfl (does_buildSlice (f := lI) ([a0.Instr.B] : List Int) [(tI a0.Instr.B)] el31 rfl rfl rfl (fc [(tI a0.Instr.B)] 0 rfl (part_one (one_i _)) rfl rfl (fn_ rfl)) rfl (fun _ => rfl)) ?_
          obtain ⟨l23, ha24, h21⟩ := bs h21
          refine okL_stepO 33 rfl rfl (doesO_append (f := lI) (l := s8) (m := ([a0.Instr.B] : List Int)) el31 0 l23 (fun v25 => rowL v25 3 1 lI l23 :: Item.blk g7 113 [(tS r5.1.Name), (tI r5.1.Form), (tB r5.1.ReadsA), (tB r5.1.WritesA), (tB r5.1.ReadsB), (tB r5.1.MayTrap), (tI r5.1.Words)] :: Item.blk g1 48 [(tI a0.Instr.Op), (tI a0.Instr.A), (tI a0.Instr.B), (tI a0.Instr.C), (tI a0.Instr.N), (tL 1 lI a0.Args)] :: L) ha24 rfl rfl rfl (fun _ => rfl) (fun v25 => ?_))
          refine okL_step 5 (Ty.own v25) rfl rfl (does_assign rfl) ?_
          refine okL_nil ?_
          exact okX_meet (I := _) (l23, v25) (smh h21) (cc rfl (cc rfl cn)) rfl
        · replace h21 := cf hb22 h21
          refine okC_skip ?_
          exact okX_meet (I := _) (s8, w9) (smh h21) (cc rfl (cc rfl cn)) rfl
      · intro x hx
        obtain ⟨s17, w18⟩ := x
        change OkC _ _ _ [(1, (pAt g1 0)), (5, (Ty.own w18))] (rowL w18 3 1 lI s17 :: Item.blk g7 113 [(tS r5.1.Name), (tI r5.1.Form), (tB r5.1.ReadsA), (tB r5.1.WritesA), (tB r5.1.ReadsB), (tB r5.1.MayTrap), (tI r5.1.Words)] :: Item.blk g1 48 [(tI a0.Instr.Op), (tI a0.Instr.A), (tI a0.Instr.B), (tI a0.Instr.C), (tI a0.Instr.N), (tL 1 lI a0.Args)] :: L)
        obtain rfl : s17 = z19 := hx.symm
        replace h := hz20
        obtain ⟨z28, h30, hz29⟩ := bs h
        refine okC_meet (X := ((List Int) × Value)) (fun x => z28 = x.1) (fun x : ((List Int) × Value) => [(1, (pAt g1 0)), (5, (Ty.own x.2))]) (fun x : ((List Int) × Value) => rowL x.2 3 1 lI x.1 :: Item.blk g7 113 [(tS r5.1.Name), (tI r5.1.Form), (tB r5.1.ReadsA), (tB r5.1.WritesA), (tB r5.1.ReadsB), (tB r5.1.MayTrap), (tI r5.1.Words)] :: Item.blk g1 48 [(tI a0.Instr.Op), (tI a0.Instr.A), (tI a0.Instr.B), (tI a0.Instr.C), (tI a0.Instr.N), (tL 1 lI a0.Args)] :: L) ?_ ?_
        · refine okC_seq ?_
          refine okC_region ?_
          refine okL_step 34 (pAt g1 0) rfl rfl (does_fieldAddrP 0 Tryd.underlying48 rfl Tryd.sizeOf46 rfl rfl) ?_
          refine okL_step 35 (pAt g1 0) rfl rfl (does_fieldAddrP 0 Tryd.underlying46 rfl Tryd.sizeOf3 rfl rfl) ?_
          refine okL_step 36 (tI a0.Instr.Op) rfl rfl (does_loadB1 Tryd.isAgg3 rfl 2 rfl rfl) ?_
          refine okL_step 37 (tB (a0.Instr.Op == 11)) rfl rfl (does_eql rfl rfl) ?_
          refine okL_step 38 (tB (a0.Instr.Op == 11)) rfl rfl (does_move rfl) ?_
          refine okL_meet (X := Bool) 5 (fun x => x = ((a0.Instr.Op == 11) || (a0.Instr.Op == 12))) (fun x : Bool => [(1, (pAt g1 0)), (5, (Ty.own w18)), (43, (tB x))]) (fun x : Bool => rowL w18 3 1 lI s17 :: Item.blk g7 113 [(tS r5.1.Name), (tI r5.1.Form), (tB r5.1.ReadsA), (tB r5.1.WritesA), (tB r5.1.ReadsB), (tB r5.1.MayTrap), (tI r5.1.Words)] :: Item.blk g1 48 [(tI a0.Instr.Op), (tI a0.Instr.A), (tI a0.Instr.B), (tI a0.Instr.C), (tI a0.Instr.N), (tL 1 lI a0.Args)] :: L) _ rfl ?_ ?_
          · refine okL_split (a0.Instr.Op == 11) (fun hb31 => ?_) (fun hb31 => ?_)
            · refine okL_skip 39 38 (a0.Instr.Op == 11) rfl rfl hb31 rfl rfl ?_
              refine okL_skip 40 38 (a0.Instr.Op == 11) rfl rfl hb31 rfl rfl ?_
              refine okL_skip 41 38 (a0.Instr.Op == 11) rfl rfl hb31 rfl rfl ?_
              refine okL_skip 42 38 (a0.Instr.Op == 11) rfl rfl hb31 rfl rfl ?_
              refine okL_step 43 (tB true) rfl rfl (does_pick_t (a0.Instr.Op == 11) rfl hb31 rfl) ?_
              refine okL_nil ?_
              exact okX_meet (I := _) true (or_t hb31) (cc rfl (cc rfl (cc rfl cn))) rfl
            · refine okL_guard 39 (pAt g1 0) 38 (a0.Instr.Op == 11) rfl rfl hb31 rfl rfl (does_fieldAddrP 0 Tryd.underlying48 rfl Tryd.sizeOf46 rfl rfl) ?_
              refine okL_guard 40 (pAt g1 0) 38 (a0.Instr.Op == 11) rfl rfl hb31 rfl rfl (does_fieldAddrP 0 Tryd.underlying46 rfl Tryd.sizeOf3 rfl rfl) ?_
              refine okL_guard 41 (tI a0.Instr.Op) 38 (a0.Instr.Op == 11) rfl rfl hb31 rfl rfl (does_loadB1 Tryd.isAgg3 rfl 2 rfl rfl) ?_
              refine okL_guard 42 (tB (a0.Instr.Op == 12)) 38 (a0.Instr.Op == 11) rfl rfl hb31 rfl rfl (does_eql rfl rfl) ?_
              refine okL_step 43 (tB (a0.Instr.Op == 12)) rfl rfl (does_pick_f (a0.Instr.Op == 11) rfl hb31 rfl) ?_
              refine okL_nil ?_
              exact okX_meet (I := _) (a0.Instr.Op == 12) (or_f hb31) (cc rfl (cc rfl (cc rfl cn))) rfl
          · intro x36 hx
            subst hx
            change OkL _ _ _ _ [(1, (pAt g1 0)), (5, (Ty.own w18)), (43, (tB ((a0.Instr.Op == 11) || (a0.Instr.Op == 12))))] (rowL w18 3 1 lI s17 :: Item.blk g7 113 [(tS r5.1.Name), (tI r5.1.Form), (tB r5.1.ReadsA), (tB r5.1.WritesA), (tB r5.1.ReadsB), (tB r5.1.MayTrap), (tI r5.1.Words)] :: Item.blk g1 48 [(tI a0.Instr.Op), (tI a0.Instr.A), (tI a0.Instr.B), (tI a0.Instr.C), (tI a0.Instr.N), (tL 1 lI a0.Args)] :: L)
            refine okL_nil ?_
            refine okX_next ?_
            refine okC_cond (b := ((a0.Instr.Op == 11) || (a0.Instr.Op == 12))) rfl (fun hb32 => ?_) (fun hb32 => ?_)
            · replace h30 := ct hb32 h30
              refine okC_region ?_
              refine okL_step 44 (Ty.own w18) rfl rfl (does_move rfl) ?_
              refine okL_step 45 (pAt g1 0) rfl rfl (does_fieldAddrP 0 Tryd.underlying48 rfl Tryd.sizeOf46 rfl rfl) ?_
              refine okL_step 46 (pAt g1 3) rfl rfl (does_fieldAddrP 3 Tryd.underlying46 rfl Tryd.sizeOf3 rfl rfl) ?_
              refine okL_step 47 (tI a0.Instr.C) rfl rfl (does_loadB1 Tryd.isAgg3 rfl 2 rfl rfl) ?_
              refine okL_step 48 (tL 1 lI ([a0.Instr.C] : List Int)) rfl rfl (does_buildSlice (f := lI) ([a0.Instr.C] : List Int) [(tI a0.Instr.C)] el31 rfl rfl rfl (fc [(tI a0.Instr.C)] 0 rfl (part_one (one_i _)) rfl rfl (fn_ rfl)) rfl (fun _ => rfl)) ?_
              obtain ⟨l33, ha34, h30⟩ := bs h30
              refine okL_stepO 49 rfl rfl (doesO_append (f := lI) (l := s17) (m := ([a0.Instr.C] : List Int)) el31 0 l33 (fun v35 => rowL v35 3 1 lI l33 :: Item.blk g7 113 [(tS r5.1.Name), (tI r5.1.Form), (tB r5.1.ReadsA), (tB r5.1.WritesA), (tB r5.1.ReadsB), (tB r5.1.MayTrap), (tI r5.1.Words)] :: Item.blk g1 48 [(tI a0.Instr.Op), (tI a0.Instr.A), (tI a0.Instr.B), (tI a0.Instr.C), (tI a0.Instr.N), (tL 1 lI a0.Args)] :: L) ha34 rfl rfl rfl (fun _ => rfl) (fun v35 => ?_))
              refine okL_step 5 (Ty.own v35) rfl rfl (does_assign rfl) ?_
              refine okL_nil ?_
              exact okX_meet (I := _) (l33, v35) (smh h30) (cc rfl (cc rfl cn)) rfl
            · replace h30 := cf hb32 h30
              refine okC_skip ?_
              exact okX_meet (I := _) (s17, w18) (smh h30) (cc rfl (cc rfl cn)) rfl
        · intro x hx
          obtain ⟨s26, w27⟩ := x
          change OkC _ _ _ [(1, (pAt g1 0)), (5, (Ty.own w27))] (rowL w27 3 1 lI s26 :: Item.blk g7 113 [(tS r5.1.Name), (tI r5.1.Form), (tB r5.1.ReadsA), (tB r5.1.WritesA), (tB r5.1.ReadsB), (tB r5.1.MayTrap), (tI r5.1.Words)] :: Item.blk g1 48 [(tI a0.Instr.Op), (tI a0.Instr.A), (tI a0.Instr.B), (tI a0.Instr.C), (tI a0.Instr.N), (tL 1 lI a0.Args)] :: L)
          obtain rfl : s26 = z28 := hx.symm
          replace h := hz29
          obtain ⟨z39, h41, hz40⟩ := bs h
          refine okC_meet (X := ((List Int) × Value)) (fun x => z39 = x.1) (fun x : ((List Int) × Value) => [(5, (Ty.own x.2))]) (fun x : ((List Int) × Value) => rowL x.2 3 1 lI x.1 :: Item.blk g7 113 [(tS r5.1.Name), (tI r5.1.Form), (tB r5.1.ReadsA), (tB r5.1.WritesA), (tB r5.1.ReadsB), (tB r5.1.MayTrap), (tI r5.1.Words)] :: Item.blk g1 48 [(tI a0.Instr.Op), (tI a0.Instr.A), (tI a0.Instr.B), (tI a0.Instr.C), (tI a0.Instr.N), (tL 1 lI a0.Args)] :: L) ?_ ?_
          · refine okC_seq ?_
            refine okC_region ?_
            refine okL_step 50 (pAt g1 0) rfl rfl (does_fieldAddrP 0 Tryd.underlying48 rfl Tryd.sizeOf46 rfl rfl) ?_
            refine okL_step 51 (pAt g1 0) rfl rfl (does_fieldAddrP 0 Tryd.underlying46 rfl Tryd.sizeOf3 rfl rfl) ?_
            refine okL_step 52 (tI a0.Instr.Op) rfl rfl (does_loadB1 Tryd.isAgg3 rfl 2 rfl rfl) ?_
            refine okL_step 53 (tB (a0.Instr.Op == 6)) rfl rfl (does_eql rfl rfl) ?_
            refine okL_nil ?_
            refine okX_next ?_
            refine okC_cond (b := (a0.Instr.Op == 6)) rfl (fun hb42 => ?_) (fun hb42 => ?_)
            · replace h41 := ct hb42 h41
              refine okC_region ?_
              refine okL_step 54 (Ty.own w27) rfl rfl (does_move rfl) ?_
              refine okL_step 55 (pAt g1 5) rfl rfl (does_fieldAddrP 5 Tryd.underlying48 rfl Tryd.sizeOf31 rfl rfl) ?_
              refine okL_step 56 (tL 1 lI a0.Args) rfl rfl (does_loadB1 Tryd.isAgg31 rfl 2 rfl rfl) ?_
              obtain ⟨l43, ha44, h41⟩ := bs h41
              refine okL_stepO 57 rfl rfl (doesO_append (f := lI) (l := s26) (m := a0.Args) el31 0 l43 (fun v45 => rowL v45 3 1 lI l43 :: Item.blk g7 113 [(tS r5.1.Name), (tI r5.1.Form), (tB r5.1.ReadsA), (tB r5.1.WritesA), (tB r5.1.ReadsB), (tB r5.1.MayTrap), (tI r5.1.Words)] :: Item.blk g1 48 [(tI a0.Instr.Op), (tI a0.Instr.A), (tI a0.Instr.B), (tI a0.Instr.C), (tI a0.Instr.N), (tL 1 lI a0.Args)] :: L) ha44 rfl rfl rfl (fun _ => rfl) (fun v45 => ?_))
              refine okL_step 5 (Ty.own v45) rfl rfl (does_assign rfl) ?_
              refine okL_nil ?_
              exact okX_meet (I := _) (l43, v45) (smh h41) (cc rfl cn) rfl
            · replace h41 := cf hb42 h41
              refine okC_skip ?_
              exact okX_meet (I := _) (s26, w27) (smh h41) (cc rfl cn) rfl
          · intro x hx
            obtain ⟨s37, w38⟩ := x
            change OkC _ _ _ [(5, (Ty.own w38))] (rowL w38 3 1 lI s37 :: Item.blk g7 113 [(tS r5.1.Name), (tI r5.1.Form), (tB r5.1.ReadsA), (tB r5.1.WritesA), (tB r5.1.ReadsB), (tB r5.1.MayTrap), (tI r5.1.Words)] :: Item.blk g1 48 [(tI a0.Instr.Op), (tI a0.Instr.A), (tI a0.Instr.B), (tI a0.Instr.C), (tI a0.Instr.N), (tL 1 lI a0.Args)] :: L)
            obtain rfl : s37 = z39 := hx.symm
            replace h := hz40
            refine okC_seq ?_
            refine okC_region ?_
            refine okL_step 58 (Ty.own w38) rfl rfl (does_move rfl) ?_
            obtain ⟨r46, hc47, h⟩ := bs h
            refine okL_stepO 59 rfl rfl (doesO_callZ (rowL w38 3 1 lI s37 :: Item.blk g7 113 [(tS r5.1.Name), (tI r5.1.Form), (tB r5.1.ReadsA), (tB r5.1.WritesA), (tB r5.1.ReadsB), (tB r5.1.MayTrap), (tI r5.1.Words)] :: Item.blk g1 48 [(tI a0.Instr.Op), (tI a0.Instr.A), (tI a0.Instr.B), (tI a0.Instr.C), (tI a0.Instr.N), (tL 1 lI a0.Args)] :: L) (c_vcode_unique K s37 r46 hc47) (fun _ => (ex_own _)) (fun _ => (.cons (ex_row exI) ExIts.nil)) rfl Tryd.call121 (.lend 0 rfl rfl ArgLend.nil) (pr _) (fun v48 => ?_))
            refine okL_step 2 (Ty.own v48) rfl rfl (does_assign rfl) ?_
            refine okL_nil ?_
            refine okX_next ?_
            refine okC_ret ?_
            obtain rfl := (smh h).symm
            refine okX_items [rowL w38 3 1 lI s37, Item.blk g7 113 [(tS r5.1.Name), (tI r5.1.Form), (tB r5.1.ReadsA), (tB r5.1.WritesA), (tB r5.1.ReadsB), (tB r5.1.MayTrap), (tI r5.1.Words)], Item.blk g1 48 [(tI a0.Instr.Op), (tI a0.Instr.A), (tI a0.Instr.B), (tI a0.Instr.C), (tI a0.Instr.N), (tL 1 lI a0.Args)]] (rowL v48 3 1 lI r46 :: L) (pm 1 rfl (pm 1 rfl (pm 1 rfl (pm 0 rfl (pr _))))) ?_
            exact okX_ret1 v48 Tryd.results95 rfl rfl

theorem d_vcode_Reads (K : Nat) (a0 : VInstr) (r : (List Int)) (h : vcode_Reads K a0 = some r) : CallP Tryd.prog glob 95 [(Ty.agg [(tI a0.Instr.Op), (tI a0.Instr.A), (tI a0.Instr.B), (tI a0.Instr.C), (tI a0.Instr.N), (tL 1 lI a0.Args)])] (tL 1 lI r) := callP_of_own (c_vcode_Reads K a0 r h)

def liveness_transfer_l1 (K : Nat) (r2 : (List Int)) : Nat → (Int × (List Int)) → Option (List Int)
  | 0, _ => none
  | k + 1, s9 => (cnd (decide (s9.1 < ((r2).length : Int))) (Option.bind (idx r2 s9.1) (fun y12 => (Option.bind (liveness_set_remove s9.2 y12) (fun r14 => (liveness_transfer_l1 K r2 k ((w64 (s9.1 + 1)), r14)))))) (some s9.2))

def liveness_transfer_l2 (K : Nat) (r16 : (List Int)) : Nat → (Int × (List Int)) → Option (List Int)
  | 0, _ => none
  | k + 1, s23 => (cnd (decide (s23.1 < ((r16).length : Int))) (Option.bind (idx r16 s23.1) (fun y26 => (Option.bind (liveness_set_add s23.2 y26) (fun r28 => (liveness_transfer_l2 K r16 k ((w64 (s23.1 + 1)), r28)))))) (some s23.2))

def liveness_transfer (K : Nat) (a0 : (List Int)) (a1 : VInstr) : Option (List Int) :=
  (Option.bind (vcode_Writes a1) (fun r2 => (Option.bind (liveness_transfer_l1 K r2 K (0, a0)) (fun s4 => (Option.bind (vcode_Reads K a1) (fun r16 => (Option.bind (liveness_transfer_l2 K r16 K (0, s4)) (fun s18 => (some s18)))))))))

theorem c_liveness_transfer (K : Nat) (a0 : (List Int)) (a1 : VInstr) (v0 : Value) (r : (List Int)) (h : liveness_transfer K a0 a1 = some r) : CallOk Tryd.prog glob 68 [(Ty.own v0), (Ty.agg [(tI a1.Instr.Op), (tI a1.Instr.A), (tI a1.Instr.B), (tI a1.Instr.C), (tI a1.Instr.N), (tL 1 lI a1.Args)])] [rowL v0 137 1 lU a0] Unit (fun _ : Unit => ((Ty.tup []), [rowL v0 137 1 lU r])) := by
  refine call_of_code Tryd.func68 rfl Tryd.ntmps68 rfl (fun L w => ?_)
  change OkC _ _ _ [(0, (Ty.own v0)), (1, (Ty.agg [(tI a1.Instr.Op), (tI a1.Instr.A), (tI a1.Instr.B), (tI a1.Instr.C), (tI a1.Instr.N), (tL 1 lI a1.Args)]))] (rowL v0 137 1 lU a0 :: L)
  unfold liveness_transfer at h
  refine okC_seq ?_
  refine okC_region ?_
  refine okL_stepO 3 rfl rfl (doesO_box [(tI a1.Instr.Op), (tI a1.Instr.A), (tI a1.Instr.B), (tI a1.Instr.C), (tI a1.Instr.N), (tL 1 lI a1.Args)] rfl (part_agg _) (fun g1 => ?_))
  refine okL_nil ?_
  refine okX_next ?_
  refine okC_seq ?_
  refine okC_seq ?_
  refine okC_region ?_
  refine okL_step 8 (Ty.agg [(tI a1.Instr.Op), (tI a1.Instr.A), (tI a1.Instr.B), (tI a1.Instr.C), (tI a1.Instr.N), (tL 1 lI a1.Args)]) rfl rfl (does_loadBA [(tI a1.Instr.Op), (tI a1.Instr.A), (tI a1.Instr.B), (tI a1.Instr.C), (tI a1.Instr.N), (tL 1 lI a1.Args)] Tryd.isAgg48 Tryd.sizeOf48 rfl 0 rfl rfl rfl) ?_
  obtain ⟨r2, hc3, h⟩ := bs h
  refine okL_step 9 (tL 1 lI r2) rfl rfl (does_call0 (c_vcode_Writes a1 r2 hc3) rfl Tryd.call96 rfl) ?_
  refine okL_step 10 (tI ((r2).length : Int)) rfl rfl (does_len (sz := 1) (f := lI) (l := r2) rfl Tryd.underlying31 rfl) ?_
  refine okL_step 11 (tI 0) rfl rfl (does_move rfl) ?_
  refine okL_nil ?_
  refine okX_next ?_
  obtain ⟨z6, h8, hz7⟩ := bs h
  refine okC_meetE (X := (List Int)) (fun x => z6 = x) (fun x : (List Int) => [(0, (Ty.own v0)), (3, (pAt g1 0))]) (fun x : (List Int) => Item.blk g1 48 [(tI a1.Instr.Op), (tI a1.Instr.A), (tI a1.Instr.B), (tI a1.Instr.C), (tI a1.Instr.N), (tL 1 lI a1.Args)] :: rowL v0 137 1 lU x :: L) ?_ ?_
  · refine okC_block ?_
    refine okC_loop (X := (Int × (List Int))) (fun k x => liveness_transfer_l1 K r2 k x = some z6) (fun x : (Int × (List Int)) => [(0, (Ty.own v0)), (3, (pAt g1 0)), (9, (tL 1 lI r2)), (10, (tI ((r2).length : Int))), (11, (tI x.1))]) (fun x : (Int × (List Int)) => Item.blk g1 48 [(tI a1.Instr.Op), (tI a1.Instr.A), (tI a1.Instr.B), (tI a1.Instr.C), (tI a1.Instr.N), (tL 1 lI a1.Args)] :: rowL v0 137 1 lU x.2 :: L) K (0, a0) h8 (cc rfl (cc rfl (cc rfl (cc rfl (cc rfl cn))))) rfl (fun k s9 hI => ?_)
    change OkC _ _ _ [(0, (Ty.own v0)), (3, (pAt g1 0)), (9, (tL 1 lI r2)), (10, (tI ((r2).length : Int))), (11, (tI s9.1))] (Item.blk g1 48 [(tI a1.Instr.Op), (tI a1.Instr.A), (tI a1.Instr.B), (tI a1.Instr.C), (tI a1.Instr.N), (tL 1 lI a1.Args)] :: rowL v0 137 1 lU s9.2 :: L)
    cases k with
    | zero => exact (nz hI).elim
    | succ k =>
      have h : liveness_transfer_l1 K r2 (k + 1) s9 = some z6 := hI
      rw [liveness_transfer_l1.eq_2] at h
      refine okC_seq ?_
      refine okC_region ?_
      refine okL_step 12 (tB (decide (s9.1 < ((r2).length : Int)))) rfl rfl (does_lss rfl rfl) ?_
      refine okL_nil ?_
      refine okX_next ?_
      refine okC_seq ?_
      refine okC_cond (b := (decide (s9.1 < ((r2).length : Int)))) rfl (fun hb11 => ?_) (fun hb11 => ?_)
      · replace h := ct hb11 h
        refine okC_skip ?_
        refine okX_next ?_
        refine okC_seq ?_
        refine okC_block ?_
        refine okC_seq ?_
        refine okC_region ?_
        obtain ⟨y12, hi13, h⟩ := bs h
        refine okL_step 13 (Ty.ptr [(tI y12)]) rfl rfl (does_index (sz := 1) (f := lI) (l := r2) (n := s9.1) y12 Tryd.underlying31 Tryd.sizeOf3 hi13 rfl rfl) ?_
        refine okL_step 14 (tI y12) rfl rfl (does_load1 Tryd.isAgg3 rfl) ?_
        refine okL_step 5 (tI y12) rfl rfl (does_assign rfl) ?_
        refine okL_nil ?_
        refine okX_next ?_
        refine okC_region ?_
        refine okL_step 15 (Ty.own v0) rfl rfl (does_move rfl) ?_
        refine okL_step 16 (tI y12) rfl rfl (does_move rfl) ?_
        obtain ⟨r14, hc15, h⟩ := bs h
        refine okL_stepO 17 rfl rfl (doesO_call0 (Item.blk g1 48 [(tI a1.Instr.Op), (tI a1.Instr.A), (tI a1.Instr.B), (tI a1.Instr.C), (tI a1.Instr.N), (tL 1 lI a1.Args)] :: L) (c_liveness_set_remove s9.2 y12 v0 r14 hc15) rfl Tryd.call71 rfl (pm 1 rfl (pr _)) (fun _ => ?_))
        refine okL_nil ?_
        refine okX_block_normal ?_
        refine okX_next ?_
        refine okC_region ?_
        refine okL_step 18 (tI (w64 (s9.1 + 1))) rfl rfl (does_add rfl rfl) ?_
        refine okL_step 11 (tI (w64 (s9.1 + 1))) rfl rfl (does_move rfl) ?_
        refine okL_nil ?_
        refine okX_items [] (Item.blk g1 48 [(tI a1.Instr.Op), (tI a1.Instr.A), (tI a1.Instr.B), (tI a1.Instr.C), (tI a1.Instr.N), (tL 1 lI a1.Args)] :: rowL v0 137 1 lU r14 :: L) (pm 1 rfl (pm 0 rfl (pr _))) ?_
        exact okX_again k (Nat.lt_succ_self k) ((w64 (s9.1 + 1)), r14) h (cc rfl (cc rfl (cc rfl (cc rfl (cc rfl cn))))) rfl
      · replace h := cf hb11 h
        refine okC_exit ?_
        refine okX_then_exit ?_
        refine okX_again_exit ?_
        refine okX_block_hit ?_
        exact okX_meet (I := _) s9.2 (smh h) (cc rfl (cc rfl cn)) rfl
  · intro s4 hx
    change OkX _ _ _ [(0, (Ty.own v0)), (3, (pAt g1 0))] (Item.blk g1 48 [(tI a1.Instr.Op), (tI a1.Instr.A), (tI a1.Instr.B), (tI a1.Instr.C), (tI a1.Instr.N), (tL 1 lI a1.Args)] :: rowL v0 137 1 lU s4 :: L)
    obtain rfl : s4 = z6 := hx.symm
    replace h := hz7
    refine okX_next ?_
    refine okC_seq ?_
    refine okC_region ?_
    refine okL_step 19 (Ty.agg [(tI a1.Instr.Op), (tI a1.Instr.A), (tI a1.Instr.B), (tI a1.Instr.C), (tI a1.Instr.N), (tL 1 lI a1.Args)]) rfl rfl (does_loadBA [(tI a1.Instr.Op), (tI a1.Instr.A), (tI a1.Instr.B), (tI a1.Instr.C), (tI a1.Instr.N), (tL 1 lI a1.Args)] Tryd.isAgg48 Tryd.sizeOf48 rfl 0 rfl rfl rfl) ?_
    obtain ⟨r16, hc17, h⟩ := bs h
    refine okL_step 20 (tL 1 lI r16) rfl rfl (does_call0 (d_vcode_Reads K a1 r16 hc17) rfl Tryd.call95 rfl) ?_
    refine okL_step 21 (tI ((r16).length : Int)) rfl rfl (does_len (sz := 1) (f := lI) (l := r16) rfl Tryd.underlying31 rfl) ?_
    refine okL_step 22 (tI 0) rfl rfl (does_move rfl) ?_
    refine okL_nil ?_
    refine okX_next ?_
    obtain ⟨z20, h22, hz21⟩ := bs h
    refine okC_meetE (X := (List Int)) (fun x => z20 = x) (fun x : (List Int) => []) (fun x : (List Int) => Item.blk g1 48 [(tI a1.Instr.Op), (tI a1.Instr.A), (tI a1.Instr.B), (tI a1.Instr.C), (tI a1.Instr.N), (tL 1 lI a1.Args)] :: rowL v0 137 1 lU x :: L) ?_ ?_
    · refine okC_block ?_
      refine okC_loop (X := (Int × (List Int))) (fun k x => liveness_transfer_l2 K r16 k x = some z20) (fun x : (Int × (List Int)) => [(0, (Ty.own v0)), (20, (tL 1 lI r16)), (21, (tI ((r16).length : Int))), (22, (tI x.1))]) (fun x : (Int × (List Int)) => Item.blk g1 48 [(tI a1.Instr.Op), (tI a1.Instr.A), (tI a1.Instr.B), (tI a1.Instr.C), (tI a1.Instr.N), (tL 1 lI a1.Args)] :: rowL v0 137 1 lU x.2 :: L) K (0, s4) h22 (cc rfl (cc rfl (cc rfl (cc rfl cn)))) rfl (fun k s23 hI => ?_)
      change OkC _ _ _ [(0, (Ty.own v0)), (20, (tL 1 lI r16)), (21, (tI ((r16).length : Int))), (22, (tI s23.1))] (Item.blk g1 48 [(tI a1.Instr.Op), (tI a1.Instr.A), (tI a1.Instr.B), (tI a1.Instr.C), (tI a1.Instr.N), (tL 1 lI a1.Args)] :: rowL v0 137 1 lU s23.2 :: L)
      cases k with
      | zero => exact (nz hI).elim
      | succ k =>
        have h : liveness_transfer_l2 K r16 (k + 1) s23 = some z20 := hI
        rw [liveness_transfer_l2.eq_2] at h
        refine okC_seq ?_
        refine okC_region ?_
        refine okL_step 23 (tB (decide (s23.1 < ((r16).length : Int)))) rfl rfl (does_lss rfl rfl) ?_
        refine okL_nil ?_
        refine okX_next ?_
        refine okC_seq ?_
        refine okC_cond (b := (decide (s23.1 < ((r16).length : Int)))) rfl (fun hb25 => ?_) (fun hb25 => ?_)
        · replace h := ct hb25 h
          refine okC_skip ?_
          refine okX_next ?_
          refine okC_seq ?_
          refine okC_block ?_
          refine okC_seq ?_
          refine okC_region ?_
          obtain ⟨y26, hi27, h⟩ := bs h
          refine okL_step 24 (Ty.ptr [(tI y26)]) rfl rfl (does_index (sz := 1) (f := lI) (l := r16) (n := s23.1) y26 Tryd.underlying31 Tryd.sizeOf3 hi27 rfl rfl) ?_
          refine okL_step 25 (tI y26) rfl rfl (does_load1 Tryd.isAgg3 rfl) ?_
          refine okL_step 7 (tI y26) rfl rfl (does_assign rfl) ?_
          refine okL_nil ?_
          refine okX_next ?_
          refine okC_region ?_
          refine okL_step 26 (Ty.own v0) rfl rfl (does_move rfl) ?_
          refine okL_step 27 (tI y26) rfl rfl (does_move rfl) ?_
          obtain ⟨r28, hc29, h⟩ := bs h
          refine okL_stepO 28 rfl rfl (doesO_call0 (Item.blk g1 48 [(tI a1.Instr.Op), (tI a1.Instr.A), (tI a1.Instr.B), (tI a1.Instr.C), (tI a1.Instr.N), (tL 1 lI a1.Args)] :: L) (c_liveness_set_add s23.2 y26 v0 r28 hc29) rfl Tryd.call72 rfl (pm 1 rfl (pr _)) (fun _ => ?_))
          refine okL_nil ?_
          refine okX_block_normal ?_
          refine okX_next ?_
          refine okC_region ?_
          refine okL_step 29 (tI (w64 (s23.1 + 1))) rfl rfl (does_add rfl rfl) ?_
          refine okL_step 22 (tI (w64 (s23.1 + 1))) rfl rfl (does_move rfl) ?_
          refine okL_nil ?_
          refine okX_items [] (Item.blk g1 48 [(tI a1.Instr.Op), (tI a1.Instr.A), (tI a1.Instr.B), (tI a1.Instr.C), (tI a1.Instr.N), (tL 1 lI a1.Args)] :: rowL v0 137 1 lU r28 :: L) (pm 1 rfl (pm 0 rfl (pr _))) ?_
          exact okX_again k (Nat.lt_succ_self k) ((w64 (s23.1 + 1)), r28) h (cc rfl (cc rfl (cc rfl (cc rfl cn)))) rfl
        · replace h := cf hb25 h
          refine okC_exit ?_
          refine okX_then_exit ?_
          refine okX_again_exit ?_
          refine okX_block_hit ?_
          exact okX_meet (I := _) s23.2 (smh h) cn rfl
    · intro s18 hx
      change OkX _ _ _ [] (Item.blk g1 48 [(tI a1.Instr.Op), (tI a1.Instr.A), (tI a1.Instr.B), (tI a1.Instr.C), (tI a1.Instr.N), (tL 1 lI a1.Args)] :: rowL v0 137 1 lU s18 :: L)
      obtain rfl : s18 = z20 := hx.symm
      replace h := hz21
      obtain rfl := (smh h).symm
      refine okX_items [Item.blk g1 48 [(tI a1.Instr.Op), (tI a1.Instr.A), (tI a1.Instr.B), (tI a1.Instr.C), (tI a1.Instr.N), (tL 1 lI a1.Args)]] (rowL v0 137 1 lU s18 :: L) (pm 0 rfl (pm 0 rfl (pr _))) ?_
      exact okX_end0 () Tryd.results68 rfl rfl

def liveness_analyze_l1 (K : Nat) (a0 : VFunc) (l2 : (List (List Int))) : Nat → (Int × (List (List Int)) × (List (List Int))) → Option ((List (List Int)) × (List (List Int)))
  | 0, _ => none
  | k + 1, s16 => (cnd (decide (s16.1 < ((l2).length : Int))) (Option.bind (idx s16.2.2 s16.1) (fun y19 => (Option.bind (liveness_empty a0.Regs) (fun r23 => (Option.bind (liveness_empty a0.Regs) (fun r26 => (Option.bind (idx s16.2.1 s16.1) (fun y29 => (liveness_analyze_l1 K a0 l2 k ((w64 (s16.1 + 1)), (s16.2.1.set s16.1.toNat r26), (s16.2.2.set s16.1.toNat r23))))))))))) (some (s16.2.1, s16.2.2)))

def liveness_analyze_l4 (K : Nat) (s46 : (Bool × Int × (List (List Int)) × (List (List Int)))) (r57 : (List Int)) : Nat → (Int × (List (List Int)) × (List (List Int))) → Option ((List (List Int)) × (List (List Int)))
  | 0, _ => none
  | k + 1, s64 => (cnd (decide (s64.1 < ((r57).length : Int))) (Option.bind (idx r57 s64.1) (fun y67 => (Option.bind (idx s64.2.1 s46.2.1) (fun y69 => (Option.bind (idx s64.2.2 y67) (fun y73 => (Option.bind (liveness_set_union K y69 y73) (fun r77 => (liveness_analyze_l4 K s46 r57 k ((w64 (s64.1 + 1)), (s64.2.1.set s46.2.1.toNat r77.2), (s64.2.2.set y67.toNat y73))))))))))) (some (s64.2.1, s64.2.2)))

def liveness_analyze_l5 (K : Nat) (y54 : Block) : Nat → (Int × (List Int)) → Option (List Int)
  | 0, _ => none
  | k + 1, s94 => (cnd (decide (s94.1 ≥ 0)) (Option.bind (idx y54.Instrs s94.1) (fun y97 => (Option.bind (liveness_transfer K s94.2 y97) (fun r99 => (liveness_analyze_l5 K y54 k ((w64 (s94.1 - 1)), r99)))))) (some s94.2))

def liveness_analyze_l3 (K : Nat) (a0 : VFunc) : Nat → (Bool × Int × (List (List Int)) × (List (List Int))) → Option (Bool × (List (List Int)) × (List (List Int)))
  | 0, _ => none
  | k + 1, s46 => (cnd (decide (s46.2.1 ≥ 0)) (Option.bind (Option.bind (idx a0.Blocks s46.2.1) (fun y54 => (Option.bind (vcode_Successors K y54) (fun r57 => (Option.bind (liveness_analyze_l4 K s46 r57 K (0, s46.2.2.1, s46.2.2.2)) (fun s59 => (Option.bind (idx s59.1 s46.2.1) (fun y80 => (Option.bind (app 8 ([] : List Int) y80) (fun l84 => (Option.bind (liveness_addTerminator l84 y54) (fun r87 => (Option.bind (liveness_analyze_l5 K y54 K ((w64 (((y54.Instrs).length : Int) - 1)), r87)) (fun s89 => (Option.bind (idx s59.2 s46.2.1) (fun y101 => (Option.bind (liveness_set_union K y101 s89) (fun r105 => (cnd r105.1 (some (true, (s59.1.set s46.2.1.toNat y80), (s59.2.set s46.2.1.toNat r105.2))) (some (s46.1, (s59.1.set s46.2.1.toNat y80), (s59.2.set s46.2.1.toNat r105.2)))))))))))))))))))))) (fun s49 => (liveness_analyze_l3 K a0 k (s49.1, (w64 (s46.2.1 - 1)), s49.2.1, s49.2.2)))) (some (s46.1, s46.2.2.1, s46.2.2.2)))

def liveness_analyze_l2 (K : Nat) (a0 : VFunc) : Nat → (Bool × (List (List Int)) × (List (List Int))) → Option ((List (List Int)) × (List (List Int)))
  | 0, _ => none
  | k + 1, s38 => (cnd s38.1 (Option.bind (liveness_analyze_l3 K a0 K (false, (w64 (((a0.Blocks).length : Int) - 1)), s38.2.1, s38.2.2)) (fun s41 => (liveness_analyze_l2 K a0 k (s41.1, s41.2.1, s41.2.2)))) (some (s38.2.1, s38.2.2)))

def liveness_analyze (K : Nat) (a0 : VFunc) : Option ((List (List Int)) × (List (List Int))) :=
  (Option.bind (mk 24 ((a0.Blocks).length : Int) ([] : List Int)) (fun l2 => (Option.bind (mk 24 ((a0.Blocks).length : Int) ([] : List Int)) (fun l6 => (Option.bind (liveness_analyze_l1 K a0 l2 K (0, l6, l2)) (fun s11 => (Option.bind (liveness_analyze_l2 K a0 K (true, s11.1, s11.2)) (fun s33 => (some (s33.2, s33.1))))))))))

theorem c_liveness_analyze (K : Nat) (a0 : VFunc) (r : (List (List Int)) × (List (List Int))) (h : liveness_analyze K a0 = some r) : CallP Tryd.prog glob 64 [(Ty.agg [(tI a0.Params), (tI a0.Regs), (tL 5 Block.ty a0.Blocks)])] (Ty.tup [(tL 1 ls_SU r.1), (tL 1 ls_SU r.2)]) := by
  refine call_of_code Tryd.func64 rfl Tryd.ntmps64 rfl (fun L w => ?_)
  change OkC _ _ _ [(0, (Ty.agg [(tI a0.Params), (tI a0.Regs), (tL 5 Block.ty a0.Blocks)]))] (L)
  unfold liveness_analyze at h
  refine okC_seq ?_
  refine okC_region ?_
  refine okL_stepO 1 rfl rfl (doesO_box [(tI a0.Params), (tI a0.Regs), (tL 5 Block.ty a0.Blocks)] rfl (part_agg _) (fun g1 => ?_))
  refine okL_step 2 (Ty.val (.slice none 0 0)) rfl rfl (does_assign rfl) ?_
  refine okL_step 3 (Ty.val (.slice none 0 0)) rfl rfl (does_assign rfl) ?_
  refine okL_nil ?_
  refine okX_next ?_
  refine okC_seq ?_
  refine okC_region ?_
  refine okL_step 13 (pAt g1 2) rfl rfl (does_fieldAddrP 2 Tryd.underlying27 rfl Tryd.sizeOf25 rfl rfl) ?_
  refine okL_step 14 (tL 5 Block.ty a0.Blocks) rfl rfl (does_loadB1 Tryd.isAgg25 rfl 0 rfl rfl) ?_
  refine okL_step 15 (tI ((a0.Blocks).length : Int)) rfl rfl (does_len (sz := 5) (f := Block.ty) (l := a0.Blocks) rfl Tryd.underlying25 rfl) ?_
  refine okL_step 4 (tI ((a0.Blocks).length : Int)) rfl rfl (does_assign rfl) ?_
  refine okL_nil ?_
  refine okX_next ?_
  refine okC_seq ?_
  refine okC_cov [(1, (pAt g1 0)), (3, (Ty.val (.slice none 0 0))), (4, (tI ((a0.Blocks).length : Int)))] (cc rfl (cc rfl (cc rfl cn))) ?_
  obtain ⟨l2, hm3, h⟩ := bs h
  obtain ⟨l6, hm7, h⟩ := bs h
  refine okC_draw 5 [some (16, (tI ((a0.Blocks).length : Int))), none, some (18, (tI ((a0.Blocks).length : Int))), none, none] ⟨Item.blk g1 27 [(tI a0.Params), (tI a0.Regs), (tL 5 Block.ty a0.Blocks)] :: ([] : List Item), Item.blk g1 27 [(tI a0.Params), (tI a0.Regs), (tL 5 Block.ty a0.Blocks)] :: ([] : List Item), []⟩ [1, 3, 4] mixed rfl rfl (by kernel_rfl) rfl (by kernel_rfl) rfl rfl rfl (fun _ h => List.Sublist.subset (.cons_cons _ (List.nil_sublist _)) h) (fun _ h => List.Sublist.subset (.cons_cons _ (List.nil_sublist _)) h) rfl (by kernel_rfl) (.inr ⟨by kernel_rfl, by kernel_rfl⟩) (by kernel_rfl) (by kernel_rfl) (dc (draw_plain rfl (does_move rfl)) (ds (dc (draw_plain rfl (does_move rfl)) (ds (ds (dn)))))) ?_
  refine chain_meet (X := (Value × (List Value) × Value × (List Value))) (fun x : (Value × (List Value) × Value × (List Value)) => [(16, (tI ((a0.Blocks).length : Int))), (18, (tI ((a0.Blocks).length : Int))), (17, (Ty.own x.1)), (19, (Ty.own x.2.2.1)), (2, (Ty.own x.1)), (1, (pAt g1 0)), (3, (Ty.val (.slice none 0 0))), (4, (tI ((a0.Blocks).length : Int)))]) (fun x : (Value × (List Value) × Value × (List Value)) => rowL x.2.2.1 93 1 lO x.2.2.2 :: rowsL x.2.2.2 137 1 lU l6 :: rowL x.1 93 1 lO x.2.1 :: rowsL x.2.1 137 1 lU l2 :: Item.blk g1 27 [(tI a0.Params), (tI a0.Regs), (tL 5 Block.ty a0.Blocks)] :: L) ?_ ?_
  · intro x
    obtain ⟨v4, us5, v8, us9⟩ := x
    change OkL _ _ _ _ [(16, (tI ((a0.Blocks).length : Int))), (18, (tI ((a0.Blocks).length : Int))), (17, (Ty.own v4)), (19, (Ty.own v8)), (2, (Ty.own v4)), (1, (pAt g1 0)), (3, (Ty.val (.slice none 0 0))), (4, (tI ((a0.Blocks).length : Int)))] (rowL v8 93 1 lO us9 :: rowsL us9 137 1 lU l6 :: rowL v4 93 1 lO us5 :: rowsL us5 137 1 lU l2 :: Item.blk g1 27 [(tI a0.Params), (tI a0.Regs), (tL 5 Block.ty a0.Blocks)] :: L)
    refine okL_step 3 (Ty.own v8) rfl rfl (does_assign rfl) ?_
    refine okL_nil ?_
    refine okX_next ?_
    refine okC_seq ?_
    refine okC_seq ?_
    refine okC_region ?_
    refine okL_step 20 (Ty.own v4) rfl rfl (does_move rfl) ?_
    refine okL_rowsLen 3 rfl (fun hl10 => ?_)
    refine okL_step 21 (tI ((l2).length : Int)) rfl rfl (does_weak (does_lenR (f := lO) (l := us5) rfl Tryd.underlying89 2 rfl rfl) (sub_eq (congrArg (fun n : Nat => tI (n : Int)) hl10))) ?_
    refine okL_step 22 (tI 0) rfl rfl (does_move rfl) ?_
    refine okL_nil ?_
    refine okX_next ?_
    obtain ⟨z13, h15, hz14⟩ := bs h
    refine okC_meetE (X := (((List (List Int)) × (List (List Int))) × ((List Value) × (List Value)))) (fun x => z13 = x.1) (fun x : (((List (List Int)) × (List (List Int))) × ((List Value) × (List Value))) => [(1, (pAt g1 0)), (2, (Ty.own v4)), (3, (Ty.own v8)), (4, (tI ((a0.Blocks).length : Int)))]) (fun x : (((List (List Int)) × (List (List Int))) × ((List Value) × (List Value))) => rowL v8 93 1 lO x.2.1 :: rowsL x.2.1 137 1 lU x.1.1 :: rowL v4 93 1 lO x.2.2 :: rowsL x.2.2 137 1 lU x.1.2 :: Item.blk g1 27 [(tI a0.Params), (tI a0.Regs), (tL 5 Block.ty a0.Blocks)] :: L) ?_ ?_
    · refine okC_block ?_
      refine okC_loop (X := ((Int × (List (List Int)) × (List (List Int))) × ((List Value) × (List Value)))) (fun k x => liveness_analyze_l1 K a0 l2 k x.1 = some z13) (fun x : ((Int × (List (List Int)) × (List (List Int))) × ((List Value) × (List Value))) => [(1, (pAt g1 0)), (2, (Ty.own v4)), (3, (Ty.own v8)), (4, (tI ((a0.Blocks).length : Int))), (21, (tI ((l2).length : Int))), (22, (tI x.1.1))]) (fun x : ((Int × (List (List Int)) × (List (List Int))) × ((List Value) × (List Value))) => rowL v8 93 1 lO x.2.1 :: rowsL x.2.1 137 1 lU x.1.2.1 :: rowL v4 93 1 lO x.2.2 :: rowsL x.2.2 137 1 lU x.1.2.2 :: Item.blk g1 27 [(tI a0.Params), (tI a0.Regs), (tL 5 Block.ty a0.Blocks)] :: L) K ((0, l6, l2), (us9, us5)) h15 (cc rfl (cc rfl (cc rfl (cc rfl (cc rfl (cc rfl cn)))))) rfl (fun k x hI => ?_)
      obtain ⟨s16, w17⟩ := x
      change OkC _ _ _ [(1, (pAt g1 0)), (2, (Ty.own v4)), (3, (Ty.own v8)), (4, (tI ((a0.Blocks).length : Int))), (21, (tI ((l2).length : Int))), (22, (tI s16.1))] (rowL v8 93 1 lO w17.1 :: rowsL w17.1 137 1 lU s16.2.1 :: rowL v4 93 1 lO w17.2 :: rowsL w17.2 137 1 lU s16.2.2 :: Item.blk g1 27 [(tI a0.Params), (tI a0.Regs), (tL 5 Block.ty a0.Blocks)] :: L)
      cases k with
      | zero => exact (nz hI).elim
      | succ k =>
        have h : liveness_analyze_l1 K a0 l2 (k + 1) s16 = some z13 := hI
        rw [liveness_analyze_l1.eq_2] at h
        refine okC_seq ?_
        refine okC_region ?_
        refine okL_step 23 (tB (decide (s16.1 < ((l2).length : Int)))) rfl rfl (does_lss rfl rfl) ?_
        refine okL_nil ?_
        refine okX_next ?_
        refine okC_seq ?_
        refine okC_cond (b := (decide (s16.1 < ((l2).length : Int)))) rfl (fun hb18 => ?_) (fun hb18 => ?_)
        · replace h := ct hb18 h
          refine okC_skip ?_
          refine okX_next ?_
          refine okC_seq ?_
          refine okC_block ?_
          refine okC_seq ?_
          refine okC_region ?_
          refine okL_step 24 (tI s16.1) rfl rfl (does_move rfl) ?_
          refine okL_step 5 (tI s16.1) rfl rfl (does_assign rfl) ?_
          refine okL_nil ?_
          refine okX_next ?_
          refine okC_cov [(1, (pAt g1 0)), (2, (Ty.own v4)), (3, (Ty.own v8)), (4, (tI ((a0.Blocks).length : Int))), (5, (tI s16.1)), (21, (tI ((l2).length : Int))), (22, (tI s16.1))] (cc rfl (cc rfl (cc rfl (cc rfl (cc rfl (cc rfl (cc rfl cn))))))) ?_
          obtain ⟨y19, hi20, h⟩ := bs h
          refine okC_open (m := s16.1) hi20 (pm 3 rfl (pr _)) (fun u21 hu22 => ?_)
          obtain ⟨r23, hc24, h⟩ := bs h
          obtain ⟨r26, hc27, h⟩ := bs h
          refine okC_draw 12 [some (25, (Ty.own v4)), some (26, (tI s16.1)), some (27, (Ty.own v8)), some (28, (tI s16.1)), some (29, (pAt g1 1)), some (30, (tI a0.Regs)), none, some (32, (pAt g1 1)), some (33, (tI a0.Regs)), none, some (35, (Ty.rptr v4 (s16.1.toNat * 1))), none] ⟨rowL u21 137 1 lU y19 :: rowsL (w17.2.eraseIdx s16.1.toNat) 137 1 lU (s16.2.2.eraseIdx s16.1.toNat) :: rowL v8 93 1 lO w17.1 :: rowsL w17.1 137 1 lU s16.2.1 :: Item.blk g1 27 [(tI a0.Params), (tI a0.Regs), (tL 5 Block.ty a0.Blocks)] :: ([] : List Item), rowL u21 137 1 lU y19 :: rowsL (w17.2.eraseIdx s16.1.toNat) 137 1 lU (s16.2.2.eraseIdx s16.1.toNat) :: rowL v8 93 1 lO w17.1 :: rowsL w17.1 137 1 lU s16.2.1 :: rowL v4 93 1 lO w17.2 :: Item.blk g1 27 [(tI a0.Params), (tI a0.Regs), (tL 5 Block.ty a0.Blocks)] :: ([] : List Item), [11]⟩ [6, 9, 11] mixed rfl rfl (by kernel_rfl) rfl (by kernel_rfl) rfl rfl rfl (fun _ h => List.Sublist.subset (.cons_cons _ (.cons_cons _ (.cons_cons _ (.cons_cons _ (.cons _ (.cons_cons _ (List.nil_sublist _))))))) h) (fun _ h => List.Sublist.subset (.cons_cons _ (.cons_cons _ (.cons_cons _ (.cons_cons _ (.cons_cons _ (.cons_cons _ (List.nil_sublist _))))))) h) rfl (by kernel_rfl) (.inr ⟨by kernel_rfl, by kernel_rfl⟩) (by kernel_rfl) (by kernel_rfl) (dc (draw_plain rfl (does_move rfl)) (dc (draw_plain rfl (does_move rfl)) (dc (draw_plain rfl (does_move rfl)) (dc (draw_plain rfl (does_move rfl)) (dc (draw_plain rfl (does_fieldAddrP 1 Tryd.underlying27 rfl Tryd.sizeOf3 rfl rfl)) (dc (draw_plain rfl (does_loadB1 Tryd.isAgg3 rfl 4 rfl rfl)) (ds (dc (draw_plain rfl (does_fieldAddrP 1 Tryd.underlying27 rfl Tryd.sizeOf3 rfl rfl)) (dc (draw_plain rfl (does_loadB1 Tryd.isAgg3 rfl 4 rfl rfl)) (ds (de (by kernel_rfl) (draw_plain rfl (does_indexR (f := lO) (l := w17.2) (m := s16.1) el89 4 u21 hu22 rfl rfl rfl)) (ds (dn))))))))))))) ?_
          refine ch_step [6] rfl (ap_cons (ch_at _ rfl rfl (doesO_call0 (rowL u21 137 1 lU y19 :: rowsL (w17.2.eraseIdx s16.1.toNat) 137 1 lU (s16.2.2.eraseIdx s16.1.toNat) :: rowL v8 93 1 lO w17.1 :: rowsL w17.1 137 1 lU s16.2.1 :: rowL v4 93 1 lO w17.2 :: Item.blk g1 27 [(tI a0.Params), (tI a0.Regs), (tL 5 Block.ty a0.Blocks)] :: L) (c_liveness_empty a0.Regs r23 hc24) rfl Tryd.call70 rfl (pr _) (fun v25 => ?_))) (ap_nil))
          refine ⟨⟨(fun _ h => List.Sublist.subset (.cons _ (.cons_cons _ (.cons_cons _ (.cons_cons _ (.cons_cons _ (.cons _ (.cons_cons _ (List.nil_sublist _)))))))) h), .inr (fun _ h => List.Sublist.subset (.cons _ (.cons_cons _ (.cons_cons _ (.cons_cons _ (.cons_cons _ (.cons_cons _ (.cons_cons _ (List.nil_sublist _)))))))) h)⟩, ?_⟩
          refine ch_step [9] rfl (ap_cons (ch_at _ rfl rfl (doesO_call0 (rowL v25 137 1 lU r23 :: rowL u21 137 1 lU y19 :: rowsL (w17.2.eraseIdx s16.1.toNat) 137 1 lU (s16.2.2.eraseIdx s16.1.toNat) :: rowL v8 93 1 lO w17.1 :: rowsL w17.1 137 1 lU s16.2.1 :: rowL v4 93 1 lO w17.2 :: Item.blk g1 27 [(tI a0.Params), (tI a0.Regs), (tL 5 Block.ty a0.Blocks)] :: L) (c_liveness_empty a0.Regs r26 hc27) rfl Tryd.call70 rfl (pr _) (fun v28 => ?_))) (ap_nil))
          refine ⟨⟨(fun _ h => List.Sublist.subset (.cons _ (.cons _ (.cons_cons _ (.cons_cons _ (.cons_cons _ (.cons_cons _ (.cons _ (.cons_cons _ (List.nil_sublist _))))))))) h), .inr (fun _ h => List.Sublist.subset (.cons _ (.cons _ (.cons_cons _ (.cons_cons _ (.cons_cons _ (.cons_cons _ (.cons_cons _ (.cons_cons _ (List.nil_sublist _))))))))) h)⟩, ?_⟩
          refine ch_step [11] rfl (ap_cons (ch_at _ rfl rfl (doesO_storeR (f := lO) (l := w17.2) (sz := 1) (ps := [(Ty.own v25)]) (y0 := u21) (y1 := v25) (m := s16.1) 6 0 (w17.2.set s16.1.toNat v25) (rowL v28 137 1 lU r26 :: rowL v25 137 1 lU r23 :: rowL u21 137 1 lU y19 :: rowsL (w17.2.eraseIdx s16.1.toNat) 137 1 lU (s16.2.2.eraseIdx s16.1.toNat) :: rowL v8 93 1 lO w17.1 :: rowsL w17.1 137 1 lU s16.2.1 :: rowL v4 93 1 lO (w17.2.set s16.1.toNat v25) :: Item.blk g1 27 [(tI a0.Params), (tI a0.Regs), (tL 5 Block.ty a0.Blocks)] :: L) rfl rfl (part_one (one_own _)) Tryd.sizeOf93 rfl hu22 rfl rfl rfl rfl rfl ?_)) (ap_nil))
          refine ⟨⟨(fun _ h => List.Sublist.subset (.cons _ (.cons _ (.cons_cons _ (.cons_cons _ (.cons_cons _ (.cons_cons _ (.cons _ (.cons_cons _ (List.nil_sublist _))))))))) h), .inl rfl⟩, ?_⟩
          refine ch_end ?_
          change OkL _ _ _ _ [(25, (Ty.own v4)), (26, (tI s16.1)), (27, (Ty.own v8)), (28, (tI s16.1)), (29, (pAt g1 1)), (30, (tI a0.Regs)), (32, (pAt g1 1)), (33, (tI a0.Regs)), (35, (Ty.rptr v4 (s16.1.toNat * 1))), (34, (Ty.own v28)), (31, (Ty.own v25)), (1, (pAt g1 0)), (2, (Ty.own v4)), (3, (Ty.own v8)), (4, (tI ((a0.Blocks).length : Int))), (5, (tI s16.1)), (21, (tI ((l2).length : Int))), (22, (tI s16.1))] (rowL v28 137 1 lU r26 :: rowL v25 137 1 lU r23 :: rowL u21 137 1 lU y19 :: rowsL (w17.2.eraseIdx s16.1.toNat) 137 1 lU (s16.2.2.eraseIdx s16.1.toNat) :: rowL v8 93 1 lO w17.1 :: rowsL w17.1 137 1 lU s16.2.1 :: rowL v4 93 1 lO (w17.2.set s16.1.toNat v25) :: Item.blk g1 27 [(tI a0.Params), (tI a0.Regs), (tL 5 Block.ty a0.Blocks)] :: L)
          obtain ⟨y29, hi30, h⟩ := bs h
          refine okL_open (m := s16.1) hi30 (pm 5 rfl (pr _)) (fun u31 hu32 => ?_)
          refine okL_step 36 (Ty.rptr v8 (s16.1.toNat * 1)) rfl rfl (does_indexR (f := lO) (l := w17.1) (m := s16.1) el89 6 u31 hu32 rfl rfl rfl) ?_
          refine okL_stepU rfl (doesO_storeR (f := lO) (l := w17.1) (sz := 1) (ps := [(Ty.own v28)]) (y0 := u31) (y1 := v28) (m := s16.1) 6 0 (w17.1.set s16.1.toNat v28) (rowL u31 137 1 lU y29 :: rowsL (w17.1.eraseIdx s16.1.toNat) 137 1 lU (s16.2.1.eraseIdx s16.1.toNat) :: rowL v28 137 1 lU r26 :: rowL v25 137 1 lU r23 :: rowL u21 137 1 lU y19 :: rowsL (w17.2.eraseIdx s16.1.toNat) 137 1 lU (s16.2.2.eraseIdx s16.1.toNat) :: rowL v8 93 1 lO (w17.1.set s16.1.toNat v28) :: rowL v4 93 1 lO (w17.2.set s16.1.toNat v25) :: Item.blk g1 27 [(tI a0.Params), (tI a0.Regs), (tL 5 Block.ty a0.Blocks)] :: L) rfl rfl (part_one (one_own _)) Tryd.sizeOf93 rfl hu32 rfl rfl rfl rfl rfl ?_)
          refine okL_close2 (m := s16.1) hi30 hu32 (pm 2 rfl (pm 1 rfl (pr _))) ?_
          refine okL_close2 (m := s16.1) hi20 hu22 (pm 2 rfl (pm 3 rfl (pr _))) ?_
          refine okL_nil ?_
          refine okX_block_normal ?_
          refine okX_next ?_
          refine okC_region ?_
          refine okL_step 37 (tI (w64 (s16.1 + 1))) rfl rfl (does_add rfl rfl) ?_
          refine okL_step 22 (tI (w64 (s16.1 + 1))) rfl rfl (does_move rfl) ?_
          refine okL_nil ?_
          refine okX_items [rowL u31 137 1 lU y29, rowL u21 137 1 lU y19] (rowL v8 93 1 lO (w17.1.set s16.1.toNat v28) :: rowsL (w17.1.set s16.1.toNat v28) 137 1 lU (s16.2.1.set s16.1.toNat r26) :: rowL v4 93 1 lO (w17.2.set s16.1.toNat v25) :: rowsL (w17.2.set s16.1.toNat v25) 137 1 lU (s16.2.2.set s16.1.toNat r23) :: Item.blk g1 27 [(tI a0.Params), (tI a0.Regs), (tL 5 Block.ty a0.Blocks)] :: L) (pm 2 rfl (pm 2 rfl (pm 2 rfl (pm 1 rfl (pm 1 rfl (pm 0 rfl (pm 0 rfl (pr _)))))))) ?_
          exact okX_again k (Nat.lt_succ_self k) (((w64 (s16.1 + 1)), (s16.2.1.set s16.1.toNat r26), (s16.2.2.set s16.1.toNat r23)), ((w17.1.set s16.1.toNat v28), (w17.2.set s16.1.toNat v25))) h (cc rfl (cc rfl (cc rfl (cc rfl (cc rfl (cc rfl cn)))))) rfl
        · replace h := cf hb18 h
          refine okC_exit ?_
          refine okX_then_exit ?_
          refine okX_again_exit ?_
          refine okX_block_hit ?_
          exact okX_meet (I := _) ((s16.2.1, s16.2.2), (w17.1, w17.2)) (smh h) (cc rfl (cc rfl (cc rfl (cc rfl cn)))) rfl
    · intro x hx
      obtain ⟨s11, w12⟩ := x
      change OkX _ _ _ [(1, (pAt g1 0)), (2, (Ty.own v4)), (3, (Ty.own v8)), (4, (tI ((a0.Blocks).length : Int)))] (rowL v8 93 1 lO w12.1 :: rowsL w12.1 137 1 lU s11.1 :: rowL v4 93 1 lO w12.2 :: rowsL w12.2 137 1 lU s11.2 :: Item.blk g1 27 [(tI a0.Params), (tI a0.Regs), (tL 5 Block.ty a0.Blocks)] :: L)
      obtain rfl : s11 = z13 := hx.symm
      replace h := hz14
      refine okX_next ?_
      refine okC_seq ?_
      refine okC_seq ?_
      refine okC_region ?_
      refine okL_step 6 (tB true) rfl rfl (does_assign rfl) ?_
      refine okL_nil ?_
      refine okX_next ?_
      obtain ⟨z35, h37, hz36⟩ := bs h
      refine okC_meetE (X := (((List (List Int)) × (List (List Int))) × ((List Value) × (List Value)))) (fun x => z35 = x.1) (fun x : (((List (List Int)) × (List (List Int))) × ((List Value) × (List Value))) => [(2, (Ty.own v4)), (3, (Ty.own v8))]) (fun x : (((List (List Int)) × (List (List Int))) × ((List Value) × (List Value))) => rowL v8 93 1 lO x.2.1 :: rowsL x.2.1 137 1 lU x.1.1 :: rowL v4 93 1 lO x.2.2 :: rowsL x.2.2 137 1 lU x.1.2 :: Item.blk g1 27 [(tI a0.Params), (tI a0.Regs), (tL 5 Block.ty a0.Blocks)] :: L) ?_ ?_
      · refine okC_block ?_
        refine okC_loop (X := ((Bool × (List (List Int)) × (List (List Int))) × ((List Value) × (List Value)))) (fun k x => liveness_analyze_l2 K a0 k x.1 = some z35) (fun x : ((Bool × (List (List Int)) × (List (List Int))) × ((List Value) × (List Value))) => [(1, (pAt g1 0)), (2, (Ty.own v4)), (3, (Ty.own v8)), (4, (tI ((a0.Blocks).length : Int))), (6, (tB x.1.1))]) (fun x : ((Bool × (List (List Int)) × (List (List Int))) × ((List Value) × (List Value))) => rowL v8 93 1 lO x.2.1 :: rowsL x.2.1 137 1 lU x.1.2.1 :: rowL v4 93 1 lO x.2.2 :: rowsL x.2.2 137 1 lU x.1.2.2 :: Item.blk g1 27 [(tI a0.Params), (tI a0.Regs), (tL 5 Block.ty a0.Blocks)] :: L) K ((true, s11.1, s11.2), (w12.1, w12.2)) h37 (cc rfl (cc rfl (cc rfl (cc rfl (cc rfl cn))))) rfl (fun k x hI => ?_)
        obtain ⟨s38, w39⟩ := x
        change OkC _ _ _ [(1, (pAt g1 0)), (2, (Ty.own v4)), (3, (Ty.own v8)), (4, (tI ((a0.Blocks).length : Int))), (6, (tB s38.1))] (rowL v8 93 1 lO w39.1 :: rowsL w39.1 137 1 lU s38.2.1 :: rowL v4 93 1 lO w39.2 :: rowsL w39.2 137 1 lU s38.2.2 :: Item.blk g1 27 [(tI a0.Params), (tI a0.Regs), (tL 5 Block.ty a0.Blocks)] :: L)
        cases k with
        | zero => exact (nz hI).elim
        | succ k =>
          have h : liveness_analyze_l2 K a0 (k + 1) s38 = some z35 := hI
          rw [liveness_analyze_l2.eq_2] at h
          refine okC_seq ?_
          refine okC_seq ?_
          refine okC_region ?_
          refine okL_step 38 (tB s38.1) rfl rfl (does_move rfl) ?_
          refine okL_nil ?_
          refine okX_next ?_
          refine okC_cond (b := s38.1) rfl (fun hb40 => ?_) (fun hb40 => ?_)
          · replace h := ct hb40 h
            refine okC_skip ?_
            refine okX_next ?_
            refine okC_block ?_
            refine okC_seq ?_
            refine okC_region ?_
            refine okL_step 6 (tB false) rfl rfl (does_assign rfl) ?_
            refine okL_nil ?_
            refine okX_next ?_
            refine okC_seq ?_
            refine okC_region ?_
            refine okL_step 39 (tI ((a0.Blocks).length : Int)) rfl rfl (does_move rfl) ?_
            refine okL_step 40 (tI (w64 (((a0.Blocks).length : Int) - 1))) rfl rfl (does_sub rfl rfl) ?_
            refine okL_step 7 (tI (w64 (((a0.Blocks).length : Int) - 1))) rfl rfl (does_assign rfl) ?_
            refine okL_nil ?_
            refine okX_next ?_
            obtain ⟨z43, h45, hz44⟩ := bs h
            refine okC_meetE (X := (Bool × (List (List Int)) × (List (List Int)))) (fun x => z43 = x) (fun x : (Bool × (List (List Int)) × (List (List Int))) => [(1, (pAt g1 0)), (2, (Ty.own v4)), (3, (Ty.own v8)), (4, (tI ((a0.Blocks).length : Int))), (6, (tB x.1))]) (fun x : (Bool × (List (List Int)) × (List (List Int))) => rowL v8 93 1 lO w39.1 :: rowsL w39.1 137 1 lU x.2.1 :: rowL v4 93 1 lO w39.2 :: rowsL w39.2 137 1 lU x.2.2 :: Item.blk g1 27 [(tI a0.Params), (tI a0.Regs), (tL 5 Block.ty a0.Blocks)] :: L) ?_ ?_
            · refine okC_block ?_
              refine okC_loop (X := (Bool × Int × (List (List Int)) × (List (List Int)))) (fun k x => liveness_analyze_l3 K a0 k x = some z43) (fun x : (Bool × Int × (List (List Int)) × (List (List Int))) => [(1, (pAt g1 0)), (2, (Ty.own v4)), (3, (Ty.own v8)), (4, (tI ((a0.Blocks).length : Int))), (6, (tB x.1)), (7, (tI x.2.1))]) (fun x : (Bool × Int × (List (List Int)) × (List (List Int))) => rowL v8 93 1 lO w39.1 :: rowsL w39.1 137 1 lU x.2.2.1 :: rowL v4 93 1 lO w39.2 :: rowsL w39.2 137 1 lU x.2.2.2 :: Item.blk g1 27 [(tI a0.Params), (tI a0.Regs), (tL 5 Block.ty a0.Blocks)] :: L) K (false, (w64 (((a0.Blocks).length : Int) - 1)), s38.2.1, s38.2.2) h45 (cc rfl (cc rfl (cc rfl (cc rfl (cc rfl (cc rfl cn)))))) rfl (fun k s46 hI => ?_)
              change OkC _ _ _ [(1, (pAt g1 0)), (2, (Ty.own v4)), (3, (Ty.own v8)), (4, (tI ((a0.Blocks).length : Int))), (6, (tB s46.1)), (7, (tI s46.2.1))] (rowL v8 93 1 lO w39.1 :: rowsL w39.1 137 1 lU s46.2.2.1 :: rowL v4 93 1 lO w39.2 :: rowsL w39.2 137 1 lU s46.2.2.2 :: Item.blk g1 27 [(tI a0.Params), (tI a0.Regs), (tL 5 Block.ty a0.Blocks)] :: L)
              cases k with
              | zero => exact (nz hI).elim
              | succ k =>
                have h : liveness_analyze_l3 K a0 (k + 1) s46 = some z43 := hI
                rw [liveness_analyze_l3.eq_2] at h
                refine okC_seq ?_
                refine okC_seq ?_
                refine okC_region ?_
                refine okL_step 41 (tI s46.2.1) rfl rfl (does_move rfl) ?_
                refine okL_step 42 (tB (decide (s46.2.1 ≥ 0))) rfl rfl (does_geq rfl rfl) ?_
                refine okL_nil ?_
                refine okX_next ?_
                refine okC_cond (b := (decide (s46.2.1 ≥ 0))) rfl (fun hb48 => ?_) (fun hb48 => ?_)
                · replace h := ct hb48 h
                  refine okC_skip ?_
                  refine okX_next ?_
                  obtain ⟨z51, h53, hz52⟩ := bs h
                  refine okC_meet (X := (Bool × (List (List Int)) × (List (List Int)))) (fun x => z51 = x) (fun x : (Bool × (List (List Int)) × (List (List Int))) => [(1, (pAt g1 0)), (2, (Ty.own v4)), (3, (Ty.own v8)), (4, (tI ((a0.Blocks).length : Int))), (6, (tB x.1)), (7, (tI s46.2.1))]) (fun x : (Bool × (List (List Int)) × (List (List Int))) => rowL v8 93 1 lO w39.1 :: rowsL w39.1 137 1 lU x.2.1 :: rowL v4 93 1 lO w39.2 :: rowsL w39.2 137 1 lU x.2.2 :: Item.blk g1 27 [(tI a0.Params), (tI a0.Regs), (tL 5 Block.ty a0.Blocks)] :: L) ?_ ?_
                  · refine okC_block ?_
                    refine okC_seq ?_
                    refine okC_region ?_
                    refine okL_step 45 (pAt g1 2) rfl rfl (does_fieldAddrP 2 Tryd.underlying27 rfl Tryd.sizeOf25 rfl rfl) ?_
                    refine okL_step 46 (tL 5 Block.ty a0.Blocks) rfl rfl (does_loadB1 Tryd.isAgg25 rfl 4 rfl rfl) ?_
                    refine okL_step 47 (tI s46.2.1) rfl rfl (does_move rfl) ?_
                    obtain ⟨y54, hi55, h53⟩ := bs h53
                    refine okL_step 48 (Ty.ptr [(tL 6 VInstr.ty y54.Instrs), (tI y54.End), (tI y54.Reg), (tI y54.Target), (tI y54.Else)]) rfl rfl (does_index (sz := 5) (f := Block.ty) (l := a0.Blocks) (n := s46.2.1) y54 Tryd.underlying25 Tryd.sizeOf43 hi55 rfl rfl) ?_
                    refine okL_step 49 (Ty.agg [(tL 6 VInstr.ty y54.Instrs), (tI y54.End), (tI y54.Reg), (tI y54.Target), (tI y54.Else)]) rfl rfl (does_loadA [(tL 6 VInstr.ty y54.Instrs), (tI y54.End), (tI y54.Reg), (tI y54.Target), (tI y54.Else)] Tryd.isAgg43 Tryd.sizeOf43 rfl rfl rfl) ?_
                    refine okL_stepO 8 rfl rfl (doesO_alloc [(Ty.val (.slice none 0 0)), (tI 0), (tI 0), (tI 0), (tI 0)] Tryd.zeroValue43 (part_of (sub_agg [(.slice none 0 0), (.int .i64 0), (.int .i64 0), (.int .i64 0), (.int .i64 0)] rfl) (part_agg _)) (fun g56 => ?_))
                    refine okL_stepU rfl (doesO_storeB (ps := [(tL 6 VInstr.ty y54.Instrs), (tI y54.End), (tI y54.Reg), (tI y54.Target), (tI y54.Else)]) 0 [(tL 6 VInstr.ty y54.Instrs), (tI y54.End), (tI y54.Reg), (tI y54.Target), (tI y54.Else)] (Item.blk g56 43 [(tL 6 VInstr.ty y54.Instrs), (tI y54.End), (tI y54.Reg), (tI y54.Target), (tI y54.Else)] :: rowL v8 93 1 lO w39.1 :: rowsL w39.1 137 1 lU s46.2.2.1 :: rowL v4 93 1 lO w39.2 :: rowsL w39.2 137 1 lU s46.2.2.2 :: Item.blk g1 27 [(tI a0.Params), (tI a0.Regs), (tL 5 Block.ty a0.Blocks)] :: L) rfl rfl (part_agg _) Tryd.sizeOf43 rfl rfl rfl rfl ?_)
                    refine okL_nil ?_
                    refine okX_next ?_
                    refine okC_seq ?_
                    refine okC_seq ?_
                    refine okC_region ?_
                    refine okL_step 50 (Ty.agg [(tL 6 VInstr.ty y54.Instrs), (tI y54.End), (tI y54.Reg), (tI y54.Target), (tI y54.Else)]) rfl rfl (does_loadBA [(tL 6 VInstr.ty y54.Instrs), (tI y54.End), (tI y54.Reg), (tI y54.Target), (tI y54.Else)] Tryd.isAgg43 Tryd.sizeOf43 rfl 0 rfl rfl rfl) ?_
                    obtain ⟨r57, hc58, h53⟩ := bs h53
                    refine okL_step 51 (tL 1 lI r57) rfl rfl (does_call0 (c_vcode_Successors K y54 r57 hc58) rfl Tryd.call104 rfl) ?_
                    refine okL_step 52 (tI ((r57).length : Int)) rfl rfl (does_len (sz := 1) (f := lI) (l := r57) rfl Tryd.underlying31 rfl) ?_
                    refine okL_step 53 (tI 0) rfl rfl (does_move rfl) ?_
                    refine okL_nil ?_
                    refine okX_next ?_
                    obtain ⟨z61, h63, hz62⟩ := bs h53
                    refine okC_meetE (X := ((List (List Int)) × (List (List Int)))) (fun x => z61 = x) (fun x : ((List (List Int)) × (List (List Int))) => [(1, (pAt g1 0)), (2, (Ty.own v4)), (3, (Ty.own v8)), (4, (tI ((a0.Blocks).length : Int))), (6, (tB s46.1)), (7, (tI s46.2.1)), (8, (pAt g56 0))]) (fun x : ((List (List Int)) × (List (List Int))) => Item.blk g56 43 [(tL 6 VInstr.ty y54.Instrs), (tI y54.End), (tI y54.Reg), (tI y54.Target), (tI y54.Else)] :: rowL v8 93 1 lO w39.1 :: rowsL w39.1 137 1 lU x.1 :: rowL v4 93 1 lO w39.2 :: rowsL w39.2 137 1 lU x.2 :: Item.blk g1 27 [(tI a0.Params), (tI a0.Regs), (tL 5 Block.ty a0.Blocks)] :: L) ?_ ?_
                    · refine okC_block ?_
                      refine okC_loop (X := (Int × (List (List Int)) × (List (List Int)))) (fun k x => liveness_analyze_l4 K s46 r57 k x = some z61) (fun x : (Int × (List (List Int)) × (List (List Int))) => [(1, (pAt g1 0)), (2, (Ty.own v4)), (3, (Ty.own v8)), (4, (tI ((a0.Blocks).length : Int))), (6, (tB s46.1)), (7, (tI s46.2.1)), (8, (pAt g56 0)), (51, (tL 1 lI r57)), (52, (tI ((r57).length : Int))), (53, (tI x.1))]) (fun x : (Int × (List (List Int)) × (List (List Int))) => Item.blk g56 43 [(tL 6 VInstr.ty y54.Instrs), (tI y54.End), (tI y54.Reg), (tI y54.Target), (tI y54.Else)] :: rowL v8 93 1 lO w39.1 :: rowsL w39.1 137 1 lU x.2.1 :: rowL v4 93 1 lO w39.2 :: rowsL w39.2 137 1 lU x.2.2 :: Item.blk g1 27 [(tI a0.Params), (tI a0.Regs), (tL 5 Block.ty a0.Blocks)] :: L) K (0, s46.2.2.1, s46.2.2.2) h63 (cc rfl (cc rfl (cc rfl (cc rfl (cc rfl (cc rfl (cc rfl (cc rfl (cc rfl (cc rfl cn)))))))))) rfl (fun k s64 hI => ?_)
                      change OkC _ _ _ [(1, (pAt g1 0)), (2, (Ty.own v4)), (3, (Ty.own v8)), (4, (tI ((a0.Blocks).length : Int))), (6, (tB s46.1)), (7, (tI s46.2.1)), (8, (pAt g56 0)), (51, (tL 1 lI r57)), (52, (tI ((r57).length : Int))), (53, (tI s64.1))] (Item.blk g56 43 [(tL 6 VInstr.ty y54.Instrs), (tI y54.End), (tI y54.Reg), (tI y54.Target), (tI y54.Else)] :: rowL v8 93 1 lO w39.1 :: rowsL w39.1 137 1 lU s64.2.1 :: rowL v4 93 1 lO w39.2 :: rowsL w39.2 137 1 lU s64.2.2 :: Item.blk g1 27 [(tI a0.Params), (tI a0.Regs), (tL 5 Block.ty a0.Blocks)] :: L)
                      cases k with
                      | zero => exact (nz hI).elim
                      | succ k =>
                        have h : liveness_analyze_l4 K s46 r57 (k + 1) s64 = some z61 := hI
                        rw [liveness_analyze_l4.eq_2] at h
                        refine okC_seq ?_
                        refine okC_region ?_
                        refine okL_step 54 (tB (decide (s64.1 < ((r57).length : Int)))) rfl rfl (does_lss rfl rfl) ?_
                        refine okL_nil ?_
                        refine okX_next ?_
                        refine okC_seq ?_
                        refine okC_cond (b := (decide (s64.1 < ((r57).length : Int)))) rfl (fun hb66 => ?_) (fun hb66 => ?_)
                        · replace h := ct hb66 h
                          refine okC_skip ?_
                          refine okX_next ?_
                          refine okC_seq ?_
                          refine okC_block ?_
                          refine okC_seq ?_
                          refine okC_region ?_
                          obtain ⟨y67, hi68, h⟩ := bs h
                          refine okL_step 55 (Ty.ptr [(tI y67)]) rfl rfl (does_index (sz := 1) (f := lI) (l := r57) (n := s64.1) y67 Tryd.underlying31 Tryd.sizeOf3 hi68 rfl rfl) ?_
                          refine okL_step 56 (tI y67) rfl rfl (does_load1 Tryd.isAgg3 rfl) ?_
                          refine okL_step 10 (tI y67) rfl rfl (does_assign rfl) ?_
                          refine okL_nil ?_
                          refine okX_next ?_
                          refine okC_cov [(1, (pAt g1 0)), (2, (Ty.own v4)), (3, (Ty.own v8)), (4, (tI ((a0.Blocks).length : Int))), (6, (tB s46.1)), (7, (tI s46.2.1)), (8, (pAt g56 0)), (10, (tI y67)), (51, (tL 1 lI r57)), (52, (tI ((r57).length : Int))), (53, (tI s64.1))] (cc rfl (cc rfl (cc rfl (cc rfl (cc rfl (cc rfl (cc rfl (cc rfl (cc rfl (cc rfl (cc rfl cn))))))))))) ?_
                          obtain ⟨y69, hi70, h⟩ := bs h
                          refine okC_open (m := s46.2.1) hi70 (pm 2 rfl (pr _)) (fun u71 hu72 => ?_)
                          obtain ⟨y73, hi74, h⟩ := bs h
                          refine okC_open (m := y67) hi74 (pm 5 rfl (pr _)) (fun u75 hu76 => ?_)
                          refine okC_draw 8 [some (57, (Ty.own v8)), some (58, (tI s46.2.1)), some (59, (Ty.rptr v8 (s46.2.1.toNat * 1))), some (60, (Ty.own u71)), some (61, (Ty.own v4)), some (62, (tI y67)), some (63, (Ty.rptr v4 (y67.toNat * 1))), some (64, (Ty.own u75))] ⟨rowL u75 137 1 lU y73 :: rowsL (w39.2.eraseIdx y67.toNat) 137 1 lU (s64.2.2.eraseIdx y67.toNat) :: rowL u71 137 1 lU y69 :: rowsL (w39.1.eraseIdx s46.2.1.toNat) 137 1 lU (s64.2.1.eraseIdx s46.2.1.toNat) :: Item.blk g56 43 [(tL 6 VInstr.ty y54.Instrs), (tI y54.End), (tI y54.Reg), (tI y54.Target), (tI y54.Else)] :: rowL v8 93 1 lO w39.1 :: rowL v4 93 1 lO w39.2 :: Item.blk g1 27 [(tI a0.Params), (tI a0.Regs), (tL 5 Block.ty a0.Blocks)] :: ([] : List Item), rowL u75 137 1 lU y73 :: rowsL (w39.2.eraseIdx y67.toNat) 137 1 lU (s64.2.2.eraseIdx y67.toNat) :: rowL u71 137 1 lU y69 :: rowsL (w39.1.eraseIdx s46.2.1.toNat) 137 1 lU (s64.2.1.eraseIdx s46.2.1.toNat) :: Item.blk g56 43 [(tL 6 VInstr.ty y54.Instrs), (tI y54.End), (tI y54.Reg), (tI y54.Target), (tI y54.Else)] :: rowL v8 93 1 lO w39.1 :: rowL v4 93 1 lO w39.2 :: Item.blk g1 27 [(tI a0.Params), (tI a0.Regs), (tL 5 Block.ty a0.Blocks)] :: ([] : List Item), []⟩ [] mixed rfl rfl (by kernel_rfl) rfl (by kernel_rfl) rfl rfl rfl (fun _ h => List.Sublist.subset (.cons_cons _ (.cons_cons _ (.cons_cons _ (.cons_cons _ (.cons_cons _ (.cons_cons _ (.cons_cons _ (.cons_cons _ (List.nil_sublist _))))))))) h) (fun _ h => List.Sublist.subset (.cons_cons _ (.cons_cons _ (.cons_cons _ (.cons_cons _ (.cons_cons _ (.cons_cons _ (.cons_cons _ (.cons_cons _ (List.nil_sublist _))))))))) h) rfl (by kernel_rfl) (.inr ⟨by kernel_rfl, by kernel_rfl⟩) (by kernel_rfl) (by kernel_rfl) (dc (draw_plain rfl (does_move rfl)) (dc (draw_plain rfl (does_move rfl)) (dc (draw_plain rfl (does_indexR (f := lO) (l := w39.1) (m := s46.2.1) el89 5 u71 hu72 rfl rfl rfl)) (dc (draw_plain rfl (does_loadR1 5 u71 0 Tryd.isAgg93 hu72 rfl rfl rfl)) (dc (draw_plain rfl (does_move rfl)) (dc (draw_plain rfl (does_move rfl)) (dc (draw_plain rfl (does_indexR (f := lO) (l := w39.2) (m := y67) el89 6 u75 hu76 rfl rfl rfl)) (dc (draw_plain rfl (does_loadR1 6 u75 0 Tryd.isAgg93 hu76 rfl rfl rfl)) (dn))))))))) ?_
                          refine ch_end ?_
                          change OkL _ _ _ _ [(57, (Ty.own v8)), (58, (tI s46.2.1)), (59, (Ty.rptr v8 (s46.2.1.toNat * 1))), (60, (Ty.own u71)), (61, (Ty.own v4)), (62, (tI y67)), (63, (Ty.rptr v4 (y67.toNat * 1))), (64, (Ty.own u75)), (1, (pAt g1 0)), (2, (Ty.own v4)), (3, (Ty.own v8)), (4, (tI ((a0.Blocks).length : Int))), (6, (tB s46.1)), (7, (tI s46.2.1)), (8, (pAt g56 0)), (10, (tI y67)), (51, (tL 1 lI r57)), (52, (tI ((r57).length : Int))), (53, (tI s64.1))] (rowL u75 137 1 lU y73 :: rowsL (w39.2.eraseIdx y67.toNat) 137 1 lU (s64.2.2.eraseIdx y67.toNat) :: rowL u71 137 1 lU y69 :: rowsL (w39.1.eraseIdx s46.2.1.toNat) 137 1 lU (s64.2.1.eraseIdx s46.2.1.toNat) :: Item.blk g56 43 [(tL 6 VInstr.ty y54.Instrs), (tI y54.End), (tI y54.Reg), (tI y54.Target), (tI y54.Else)] :: rowL v8 93 1 lO w39.1 :: rowL v4 93 1 lO w39.2 :: Item.blk g1 27 [(tI a0.Params), (tI a0.Regs), (tL 5 Block.ty a0.Blocks)] :: L)
                          obtain ⟨r77, hc78, h⟩ := bs h
                          refine okL_stepO 65 rfl rfl (doesO_callZ (rowL u75 137 1 lU y73 :: rowsL (w39.2.eraseIdx y67.toNat) 137 1 lU (s64.2.2.eraseIdx y67.toNat) :: rowsL (w39.1.eraseIdx s46.2.1.toNat) 137 1 lU (s64.2.1.eraseIdx s46.2.1.toNat) :: Item.blk g56 43 [(tL 6 VInstr.ty y54.Instrs), (tI y54.End), (tI y54.Reg), (tI y54.Target), (tI y54.Else)] :: rowL v8 93 1 lO w39.1 :: rowL v4 93 1 lO w39.2 :: Item.blk g1 27 [(tI a0.Params), (tI a0.Regs), (tL 5 Block.ty a0.Blocks)] :: L) (c_liveness_set_union K y69 y73 u71 r77 hc78) (fun _ => (ex_val _)) (fun _ => (.cons (ex_row exU) ExIts.nil)) rfl Tryd.call73 (.cons rfl (sub_refl _) (.lend 0 rfl rfl ArgLend.nil)) (pm 2 rfl (pr _)) (fun _ => ?_))
                          refine okL_close (m := y67) hi74 hu76 (pm 1 rfl (pm 1 rfl (pr _))) ?_
                          refine okL_close (m := s46.2.1) hi70 hu72 (pm 1 rfl (pm 1 rfl (pr _))) ?_
                          refine okL_nil ?_
                          refine okX_block_normal ?_
                          refine okX_next ?_
                          refine okC_region ?_
                          refine okL_step 66 (tI (w64 (s64.1 + 1))) rfl rfl (does_add rfl rfl) ?_
                          refine okL_step 53 (tI (w64 (s64.1 + 1))) rfl rfl (does_move rfl) ?_
                          refine okL_nil ?_
                          refine okX_items [] (Item.blk g56 43 [(tL 6 VInstr.ty y54.Instrs), (tI y54.End), (tI y54.Reg), (tI y54.Target), (tI y54.Else)] :: rowL v8 93 1 lO w39.1 :: rowsL w39.1 137 1 lU (s64.2.1.set s46.2.1.toNat r77.2) :: rowL v4 93 1 lO w39.2 :: rowsL w39.2 137 1 lU (s64.2.2.set y67.toNat y73) :: Item.blk g1 27 [(tI a0.Params), (tI a0.Regs), (tL 5 Block.ty a0.Blocks)] :: L) (pm 2 rfl (pm 2 rfl (pm 0 rfl (pm 1 rfl (pm 0 rfl (pm 0 rfl (pr _))))))) ?_
                          exact okX_again k (Nat.lt_succ_self k) ((w64 (s64.1 + 1)), (s64.2.1.set s46.2.1.toNat r77.2), (s64.2.2.set y67.toNat y73)) h (cc rfl (cc rfl (cc rfl (cc rfl (cc rfl (cc rfl (cc rfl (cc rfl (cc rfl (cc rfl cn)))))))))) rfl
                        · replace h := cf hb66 h
                          refine okC_exit ?_
                          refine okX_then_exit ?_
                          refine okX_again_exit ?_
                          refine okX_block_hit ?_
                          exact okX_meet (I := _) (s64.2.1, s64.2.2) (smh h) (cc rfl (cc rfl (cc rfl (cc rfl (cc rfl (cc rfl (cc rfl cn))))))) rfl
                    · intro s59 hx
                      change OkX _ _ _ [(1, (pAt g1 0)), (2, (Ty.own v4)), (3, (Ty.own v8)), (4, (tI ((a0.Blocks).length : Int))), (6, (tB s46.1)), (7, (tI s46.2.1)), (8, (pAt g56 0))] (Item.blk g56 43 [(tL 6 VInstr.ty y54.Instrs), (tI y54.End), (tI y54.Reg), (tI y54.Target), (tI y54.Else)] :: rowL v8 93 1 lO w39.1 :: rowsL w39.1 137 1 lU s59.1 :: rowL v4 93 1 lO w39.2 :: rowsL w39.2 137 1 lU s59.2 :: Item.blk g1 27 [(tI a0.Params), (tI a0.Regs), (tL 5 Block.ty a0.Blocks)] :: L)
                      obtain rfl : s59 = z61 := hx.symm
                      replace h53 := hz62
                      refine okX_next ?_
                      refine okC_seq ?_
                      refine okC_region ?_
                      refine okL_stepO 67 rfl rfl (doesO_build0 (f := lU) el93 (fun v79 => ?_))
                      refine okL_step 68 (Ty.own v8) rfl rfl (does_move rfl) ?_
                      refine okL_step 69 (tI s46.2.1) rfl rfl (does_move rfl) ?_
                      obtain ⟨y80, hi81, h53⟩ := bs h53
                      refine okL_open (m := s46.2.1) hi81 (pm 3 rfl (pr _)) (fun u82 hu83 => ?_)
                      refine okL_step 70 (Ty.rptr v8 (s46.2.1.toNat * 1)) rfl rfl (does_indexR (f := lO) (l := w39.1) (m := s46.2.1) el89 4 u82 hu83 rfl rfl rfl) ?_
                      refine okL_step 71 (Ty.own u82) rfl rfl (does_loadR1 4 u82 0 Tryd.isAgg93 hu83 rfl rfl rfl) ?_
                      obtain ⟨l84, ha85, h53⟩ := bs h53
                      refine okL_stepO 72 rfl rfl (doesO_appendZ (f := lU) (l := ([] : List Int)) (m := y80) el93 (rowL u82 137 1 lU y80 :: rowsL (w39.1.eraseIdx s46.2.1.toNat) 137 1 lU (s59.1.eraseIdx s46.2.1.toNat) :: Item.blk g56 43 [(tL 6 VInstr.ty y54.Instrs), (tI y54.End), (tI y54.Reg), (tI y54.Target), (tI y54.Else)] :: rowL v8 93 1 lO w39.1 :: rowL v4 93 1 lO w39.2 :: rowsL w39.2 137 1 lU s59.2 :: Item.blk g1 27 [(tI a0.Params), (tI a0.Regs), (tL 5 Block.ty a0.Blocks)] :: L) 0 l84 ha85 exU rfl (pm 2 rfl (pr _)) rfl rfl (fun v86 => ?_))
                      refine okL_step 11 (Ty.own v86) rfl rfl (does_assign rfl) ?_
                      refine okL_close (m := s46.2.1) hi81 hu83 (pm 1 rfl (pm 1 rfl (pr _))) ?_
                      refine okL_nil ?_
                      refine okX_next ?_
                      refine okC_seq ?_
                      refine okC_region ?_
                      refine okL_step 73 (Ty.own v86) rfl rfl (does_move rfl) ?_
                      refine okL_step 74 (Ty.agg [(tL 6 VInstr.ty y54.Instrs), (tI y54.End), (tI y54.Reg), (tI y54.Target), (tI y54.Else)]) rfl rfl (does_loadBA [(tL 6 VInstr.ty y54.Instrs), (tI y54.End), (tI y54.Reg), (tI y54.Target), (tI y54.Else)] Tryd.isAgg43 Tryd.sizeOf43 rfl 2 rfl rfl rfl) ?_
                      obtain ⟨r87, hc88, h53⟩ := bs h53
                      refine okL_stepO 75 rfl rfl (doesO_call0 (rowsL w39.1 137 1 lU (s59.1.set s46.2.1.toNat y80) :: Item.blk g56 43 [(tL 6 VInstr.ty y54.Instrs), (tI y54.End), (tI y54.Reg), (tI y54.Target), (tI y54.Else)] :: rowL v8 93 1 lO w39.1 :: rowL v4 93 1 lO w39.2 :: rowsL w39.2 137 1 lU s59.2 :: Item.blk g1 27 [(tI a0.Params), (tI a0.Regs), (tL 5 Block.ty a0.Blocks)] :: L) (c_liveness_addTerminator l84 y54 v86 r87 hc88) rfl Tryd.call67 rfl (pm 1 rfl (pr _)) (fun _ => ?_))
                      refine okL_nil ?_
                      refine okX_next ?_
                      refine okC_seq ?_
                      refine okC_seq ?_
                      refine okC_region ?_
                      refine okL_step 76 (pAt g56 0) rfl rfl (does_fieldAddrP 0 Tryd.underlying43 rfl Tryd.sizeOf41 rfl rfl) ?_
                      refine okL_step 77 (tL 6 VInstr.ty y54.Instrs) rfl rfl (does_loadB1 Tryd.isAgg41 rfl 2 rfl rfl) ?_
                      refine okL_step 78 (tI ((y54.Instrs).length : Int)) rfl rfl (does_len (sz := 6) (f := VInstr.ty) (l := y54.Instrs) rfl Tryd.underlying41 rfl) ?_
                      refine okL_step 79 (tI (w64 (((y54.Instrs).length : Int) - 1))) rfl rfl (does_sub rfl rfl) ?_
                      refine okL_step 12 (tI (w64 (((y54.Instrs).length : Int) - 1))) rfl rfl (does_assign rfl) ?_
                      refine okL_nil ?_
                      refine okX_next ?_
                      obtain ⟨z91, h93, hz92⟩ := bs h53
                      refine okC_meetE (X := (List Int)) (fun x => z91 = x) (fun x : (List Int) => [(1, (pAt g1 0)), (2, (Ty.own v4)), (3, (Ty.own v8)), (4, (tI ((a0.Blocks).length : Int))), (6, (tB s46.1)), (7, (tI s46.2.1)), (11, (Ty.own v86))]) (fun x : (List Int) => rowL v86 137 1 lU x :: rowsL w39.1 137 1 lU (s59.1.set s46.2.1.toNat y80) :: Item.blk g56 43 [(tL 6 VInstr.ty y54.Instrs), (tI y54.End), (tI y54.Reg), (tI y54.Target), (tI y54.Else)] :: rowL v8 93 1 lO w39.1 :: rowL v4 93 1 lO w39.2 :: rowsL w39.2 137 1 lU s59.2 :: Item.blk g1 27 [(tI a0.Params), (tI a0.Regs), (tL 5 Block.ty a0.Blocks)] :: L) ?_ ?_
                      · refine okC_block ?_
                        refine okC_loop (X := (Int × (List Int))) (fun k x => liveness_analyze_l5 K y54 k x = some z91) (fun x : (Int × (List Int)) => [(1, (pAt g1 0)), (2, (Ty.own v4)), (3, (Ty.own v8)), (4, (tI ((a0.Blocks).length : Int))), (6, (tB s46.1)), (7, (tI s46.2.1)), (8, (pAt g56 0)), (11, (Ty.own v86)), (12, (tI x.1))]) (fun x : (Int × (List Int)) => rowL v86 137 1 lU x.2 :: rowsL w39.1 137 1 lU (s59.1.set s46.2.1.toNat y80) :: Item.blk g56 43 [(tL 6 VInstr.ty y54.Instrs), (tI y54.End), (tI y54.Reg), (tI y54.Target), (tI y54.Else)] :: rowL v8 93 1 lO w39.1 :: rowL v4 93 1 lO w39.2 :: rowsL w39.2 137 1 lU s59.2 :: Item.blk g1 27 [(tI a0.Params), (tI a0.Regs), (tL 5 Block.ty a0.Blocks)] :: L) K ((w64 (((y54.Instrs).length : Int) - 1)), r87) h93 (cc rfl (cc rfl (cc rfl (cc rfl (cc rfl (cc rfl (cc rfl (cc rfl (cc rfl cn))))))))) rfl (fun k s94 hI => ?_)
                        change OkC _ _ _ [(1, (pAt g1 0)), (2, (Ty.own v4)), (3, (Ty.own v8)), (4, (tI ((a0.Blocks).length : Int))), (6, (tB s46.1)), (7, (tI s46.2.1)), (8, (pAt g56 0)), (11, (Ty.own v86)), (12, (tI s94.1))] (rowL v86 137 1 lU s94.2 :: rowsL w39.1 137 1 lU (s59.1.set s46.2.1.toNat y80) :: Item.blk g56 43 [(tL 6 VInstr.ty y54.Instrs), (tI y54.End), (tI y54.Reg), (tI y54.Target), (tI y54.Else)] :: rowL v8 93 1 lO w39.1 :: rowL v4 93 1 lO w39.2 :: rowsL w39.2 137 1 lU s59.2 :: Item.blk g1 27 [(tI a0.Params), (tI a0.Regs), (tL 5 Block.ty a0.Blocks)] :: L)
                        cases k with
                        | zero => exact (nz hI).elim
                        | succ k =>
                          have h : liveness_analyze_l5 K y54 (k + 1) s94 = some z91 := hI
                          rw [liveness_analyze_l5.eq_2] at h
                          refine okC_seq ?_
                          refine okC_seq ?_
                          refine okC_region ?_
                          refine okL_step 80 (tI s94.1) rfl rfl (does_move rfl) ?_
                          refine okL_step 81 (tB (decide (s94.1 ≥ 0))) rfl rfl (does_geq rfl rfl) ?_
                          refine okL_nil ?_
                          refine okX_next ?_
                          refine okC_cond (b := (decide (s94.1 ≥ 0))) rfl (fun hb96 => ?_) (fun hb96 => ?_)
                          · replace h := ct hb96 h
                            refine okC_skip ?_
                            refine okX_next ?_
                            refine okC_seq ?_
                            refine okC_block ?_
                            refine okC_region ?_
                            refine okL_step 84 (Ty.own v86) rfl rfl (does_move rfl) ?_
                            refine okL_step 85 (pAt g56 0) rfl rfl (does_fieldAddrP 0 Tryd.underlying43 rfl Tryd.sizeOf41 rfl rfl) ?_
                            refine okL_step 86 (tL 6 VInstr.ty y54.Instrs) rfl rfl (does_loadB1 Tryd.isAgg41 rfl 2 rfl rfl) ?_
                            refine okL_step 87 (tI s94.1) rfl rfl (does_move rfl) ?_
                            obtain ⟨y97, hi98, h⟩ := bs h
                            refine okL_step 88 (Ty.ptr [(tI y97.Instr.Op), (tI y97.Instr.A), (tI y97.Instr.B), (tI y97.Instr.C), (tI y97.Instr.N), (tL 1 lI y97.Args)]) rfl rfl (does_index (sz := 6) (f := VInstr.ty) (l := y54.Instrs) (n := s94.1) y97 Tryd.underlying41 Tryd.sizeOf48 hi98 rfl rfl) ?_
                            refine okL_step 89 (Ty.agg [(tI y97.Instr.Op), (tI y97.Instr.A), (tI y97.Instr.B), (tI y97.Instr.C), (tI y97.Instr.N), (tL 1 lI y97.Args)]) rfl rfl (does_loadA [(tI y97.Instr.Op), (tI y97.Instr.A), (tI y97.Instr.B), (tI y97.Instr.C), (tI y97.Instr.N), (tL 1 lI y97.Args)] Tryd.isAgg48 Tryd.sizeOf48 rfl rfl rfl) ?_
                            obtain ⟨r99, hc100, h⟩ := bs h
                            refine okL_stepO 90 rfl rfl (doesO_call0 (rowsL w39.1 137 1 lU (s59.1.set s46.2.1.toNat y80) :: Item.blk g56 43 [(tL 6 VInstr.ty y54.Instrs), (tI y54.End), (tI y54.Reg), (tI y54.Target), (tI y54.Else)] :: rowL v8 93 1 lO w39.1 :: rowL v4 93 1 lO w39.2 :: rowsL w39.2 137 1 lU s59.2 :: Item.blk g1 27 [(tI a0.Params), (tI a0.Regs), (tL 5 Block.ty a0.Blocks)] :: L) (c_liveness_transfer K s94.2 y97 v86 r99 hc100) rfl Tryd.call68 rfl (pm 0 rfl (pr _)) (fun _ => ?_))
                            refine okL_nil ?_
                            refine okX_block_normal ?_
                            refine okX_next ?_
                            refine okC_region ?_
                            refine okL_step 82 (tI s94.1) rfl rfl (does_move rfl) ?_
                            refine okL_step 83 (tI (w64 (s94.1 - 1))) rfl rfl (does_sub rfl rfl) ?_
                            refine okL_step 12 (tI (w64 (s94.1 - 1))) rfl rfl (does_assign rfl) ?_
                            refine okL_nil ?_
                            exact okX_again k (Nat.lt_succ_self k) ((w64 (s94.1 - 1)), r99) h (cc rfl (cc rfl (cc rfl (cc rfl (cc rfl (cc rfl (cc rfl (cc rfl (cc rfl cn))))))))) rfl
                          · replace h := cf hb96 h
                            refine okC_exit ?_
                            refine okX_then_exit ?_
                            refine okX_again_exit ?_
                            refine okX_block_hit ?_
                            exact okX_meet (I := _) s94.2 (smh h) (cc rfl (cc rfl (cc rfl (cc rfl (cc rfl (cc rfl (cc rfl cn))))))) rfl
                      · intro s89 hx
                        change OkX _ _ _ [(1, (pAt g1 0)), (2, (Ty.own v4)), (3, (Ty.own v8)), (4, (tI ((a0.Blocks).length : Int))), (6, (tB s46.1)), (7, (tI s46.2.1)), (11, (Ty.own v86))] (rowL v86 137 1 lU s89 :: rowsL w39.1 137 1 lU (s59.1.set s46.2.1.toNat y80) :: Item.blk g56 43 [(tL 6 VInstr.ty y54.Instrs), (tI y54.End), (tI y54.Reg), (tI y54.Target), (tI y54.Else)] :: rowL v8 93 1 lO w39.1 :: rowL v4 93 1 lO w39.2 :: rowsL w39.2 137 1 lU s59.2 :: Item.blk g1 27 [(tI a0.Params), (tI a0.Regs), (tL 5 Block.ty a0.Blocks)] :: L)
                        obtain rfl : s89 = z91 := hx.symm
                        replace h53 := hz92
                        refine okX_next ?_
                        refine okC_seq ?_
                        refine okC_region ?_
                        refine okL_step 91 (Ty.own v4) rfl rfl (does_move rfl) ?_
                        refine okL_step 92 (tI s46.2.1) rfl rfl (does_move rfl) ?_
                        obtain ⟨y101, hi102, h53⟩ := bs h53
                        refine okL_open (m := s46.2.1) hi102 (pm 5 rfl (pr _)) (fun u103 hu104 => ?_)
                        refine okL_step 93 (Ty.rptr v4 (s46.2.1.toNat * 1)) rfl rfl (does_indexR (f := lO) (l := w39.2) (m := s46.2.1) el89 6 u103 hu104 rfl rfl rfl) ?_
                        refine okL_step 94 (Ty.own u103) rfl rfl (does_loadR1 6 u103 0 Tryd.isAgg93 hu104 rfl rfl rfl) ?_
                        refine okL_step 95 (Ty.own v86) rfl rfl (does_move rfl) ?_
                        obtain ⟨r105, hc106, h53⟩ := bs h53
                        refine okL_stepO 96 rfl rfl (doesO_callZ (rowsL (w39.2.eraseIdx s46.2.1.toNat) 137 1 lU (s59.2.eraseIdx s46.2.1.toNat) :: rowL v86 137 1 lU s89 :: rowsL w39.1 137 1 lU (s59.1.set s46.2.1.toNat y80) :: Item.blk g56 43 [(tL 6 VInstr.ty y54.Instrs), (tI y54.End), (tI y54.Reg), (tI y54.Target), (tI y54.Else)] :: rowL v8 93 1 lO w39.1 :: rowL v4 93 1 lO w39.2 :: Item.blk g1 27 [(tI a0.Params), (tI a0.Regs), (tL 5 Block.ty a0.Blocks)] :: L) (c_liveness_set_union K y101 s89 u103 r105 hc106) (fun _ => (ex_val _)) (fun _ => (.cons (ex_row exU) ExIts.nil)) rfl Tryd.call73 (.cons rfl (sub_refl _) (.lend 1 rfl rfl ArgLend.nil)) (pm 0 rfl (pr _)) (fun _ => ?_))
                        refine okL_close (m := s46.2.1) hi102 hu104 (pm 0 rfl (pm 0 rfl (pr _))) ?_
                        refine okL_nil ?_
                        refine okX_next ?_
                        refine okC_cond (b := r105.1) rfl (fun hb107 => ?_) (fun hb107 => ?_)
                        · replace h53 := ct hb107 h53
                          refine okC_region ?_
                          refine okL_step 6 (tB true) rfl rfl (does_assign rfl) ?_
                          refine okL_nil ?_
                          refine okX_block_normal ?_
                          refine okX_items [rowL v86 137 1 lU s89, Item.blk g56 43 [(tL 6 VInstr.ty y54.Instrs), (tI y54.End), (tI y54.Reg), (tI y54.Target), (tI y54.Else)]] (rowL v8 93 1 lO w39.1 :: rowsL w39.1 137 1 lU (s59.1.set s46.2.1.toNat y80) :: rowL v4 93 1 lO w39.2 :: rowsL w39.2 137 1 lU (s59.2.set s46.2.1.toNat r105.2) :: Item.blk g1 27 [(tI a0.Params), (tI a0.Regs), (tL 5 Block.ty a0.Blocks)] :: L) (pm 1 rfl (pm 2 rfl (pm 2 rfl (pm 1 rfl (pm 1 rfl (pm 0 rfl (pm 0 rfl (pr _)))))))) ?_
                          exact okX_meet (I := _) (true, (s59.1.set s46.2.1.toNat y80), (s59.2.set s46.2.1.toNat r105.2)) (smh h53) (cc rfl (cc rfl (cc rfl (cc rfl (cc rfl (cc rfl cn)))))) rfl
                        · replace h53 := cf hb107 h53
                          refine okC_skip ?_
                          refine okX_block_normal ?_
                          refine okX_items [rowL v86 137 1 lU s89, Item.blk g56 43 [(tL 6 VInstr.ty y54.Instrs), (tI y54.End), (tI y54.Reg), (tI y54.Target), (tI y54.Else)]] (rowL v8 93 1 lO w39.1 :: rowsL w39.1 137 1 lU (s59.1.set s46.2.1.toNat y80) :: rowL v4 93 1 lO w39.2 :: rowsL w39.2 137 1 lU (s59.2.set s46.2.1.toNat r105.2) :: Item.blk g1 27 [(tI a0.Params), (tI a0.Regs), (tL 5 Block.ty a0.Blocks)] :: L) (pm 1 rfl (pm 2 rfl (pm 2 rfl (pm 1 rfl (pm 1 rfl (pm 0 rfl (pm 0 rfl (pr _)))))))) ?_
                          exact okX_meet (I := _) (s46.1, (s59.1.set s46.2.1.toNat y80), (s59.2.set s46.2.1.toNat r105.2)) (smh h53) (cc rfl (cc rfl (cc rfl (cc rfl (cc rfl (cc rfl cn)))))) rfl
                  · intro s49 hx
                    change OkC _ _ _ [(1, (pAt g1 0)), (2, (Ty.own v4)), (3, (Ty.own v8)), (4, (tI ((a0.Blocks).length : Int))), (6, (tB s49.1)), (7, (tI s46.2.1))] (rowL v8 93 1 lO w39.1 :: rowsL w39.1 137 1 lU s49.2.1 :: rowL v4 93 1 lO w39.2 :: rowsL w39.2 137 1 lU s49.2.2 :: Item.blk g1 27 [(tI a0.Params), (tI a0.Regs), (tL 5 Block.ty a0.Blocks)] :: L)
                    obtain rfl : s49 = z51 := hx.symm
                    replace h := hz52
                    refine okC_region ?_
                    refine okL_step 43 (tI s46.2.1) rfl rfl (does_move rfl) ?_
                    refine okL_step 44 (tI (w64 (s46.2.1 - 1))) rfl rfl (does_sub rfl rfl) ?_
                    refine okL_step 7 (tI (w64 (s46.2.1 - 1))) rfl rfl (does_assign rfl) ?_
                    refine okL_nil ?_
                    exact okX_again k (Nat.lt_succ_self k) (s49.1, (w64 (s46.2.1 - 1)), s49.2.1, s49.2.2) h (cc rfl (cc rfl (cc rfl (cc rfl (cc rfl (cc rfl cn)))))) rfl
                · replace h := cf hb48 h
                  refine okC_exit ?_
                  refine okX_then_exit ?_
                  refine okX_again_exit ?_
                  refine okX_block_hit ?_
                  exact okX_meet (I := _) (s46.1, s46.2.2.1, s46.2.2.2) (smh h) (cc rfl (cc rfl (cc rfl (cc rfl (cc rfl cn))))) rfl
            · intro s41 hx
              change OkX _ _ _ [(1, (pAt g1 0)), (2, (Ty.own v4)), (3, (Ty.own v8)), (4, (tI ((a0.Blocks).length : Int))), (6, (tB s41.1))] (rowL v8 93 1 lO w39.1 :: rowsL w39.1 137 1 lU s41.2.1 :: rowL v4 93 1 lO w39.2 :: rowsL w39.2 137 1 lU s41.2.2 :: Item.blk g1 27 [(tI a0.Params), (tI a0.Regs), (tL 5 Block.ty a0.Blocks)] :: L)
              obtain rfl : s41 = z43 := hx.symm
              replace h := hz44
              refine okX_block_normal ?_
              exact okX_again k (Nat.lt_succ_self k) ((s41.1, s41.2.1, s41.2.2), (w39.1, w39.2)) h (cc rfl (cc rfl (cc rfl (cc rfl (cc rfl cn))))) rfl
          · replace h := cf hb40 h
            refine okC_exit ?_
            refine okX_then_exit ?_
            refine okX_again_exit ?_
            refine okX_block_hit ?_
            exact okX_meet (I := _) ((s38.2.1, s38.2.2), (w39.1, w39.2)) (smh h) (cc rfl (cc rfl cn)) rfl
      · intro x hx
        obtain ⟨s33, w34⟩ := x
        change OkX _ _ _ [(2, (Ty.own v4)), (3, (Ty.own v8))] (rowL v8 93 1 lO w34.1 :: rowsL w34.1 137 1 lU s33.1 :: rowL v4 93 1 lO w34.2 :: rowsL w34.2 137 1 lU s33.2 :: Item.blk g1 27 [(tI a0.Params), (tI a0.Regs), (tL 5 Block.ty a0.Blocks)] :: L)
        obtain rfl : s33 = z35 := hx.symm
        replace h := hz36
        refine okX_next ?_
        refine okC_seq ?_
        refine okC_region ?_
        refine okL_step 97 (Ty.own v4) rfl rfl (does_move rfl) ?_
        refine okL_step 98 (Ty.own v8) rfl rfl (does_move rfl) ?_
        refine okL_step 2 (Ty.own v4) rfl rfl (does_assign rfl) ?_
        refine okL_step 3 (Ty.own v8) rfl rfl (does_assign rfl) ?_
        refine okL_nil ?_
        refine okX_next ?_
        refine okC_ret ?_
        obtain rfl := (smh h).symm
        refine okX_publishM [2, 97] (pm 2 rfl (pm 2 rfl (pr _))) (ac rfl (ac rfl an)) ?_
        refine okX_publishM [3, 98] (pm 0 rfl (pm 0 rfl (pr _))) (ac rfl (ac rfl an)) ?_
        refine okX_items [Item.blk g1 27 [(tI a0.Params), (tI a0.Regs), (tL 5 Block.ty a0.Blocks)]] (L) (pm 0 rfl (pr _)) ?_
        exact okX_ret2 () Tryd.results64 rfl rfl rfl rfl
  · refine ch_step [1, 3] rfl (ap_cons (ch_at _ rfl rfl (doesO_makeM lU 137 1 el89 l2 hm3 rfl rfl (fun v4 us5 => ?_))) (ap_cons (ch_at _ rfl rfl (doesO_makeM lU 137 1 el89 l6 hm7 rfl rfl (fun v8 us9 => ?_))) (ap_nil)))
    · refine ⟨⟨(fun _ h => List.Sublist.subset (.cons _ (.cons _ (.cons_cons _ (List.nil_sublist _)))) h), .inr (fun _ h => List.Sublist.subset (.cons _ (.cons _ (.cons_cons _ (List.nil_sublist _)))) h)⟩, ?_⟩
      refine ch_step [3, 4] rfl (ap_cons (ch_at _ rfl rfl (doesO_makeM lU 137 1 el89 l6 hm7 rfl rfl (fun v8 us9 => ?_))) (ap_cons (ch_at _ rfl rfl (doesO_of (does_assign rfl) ?_)) (ap_nil)))
      · refine ⟨⟨(fun _ h => List.Sublist.subset (.cons _ (.cons _ (.cons _ (.cons _ (.cons_cons _ (List.nil_sublist _)))))) h), .inr (fun _ h => List.Sublist.subset (.cons _ (.cons _ (.cons _ (.cons _ (.cons_cons _ (List.nil_sublist _)))))) h)⟩, ?_⟩
        refine ch_step [4] rfl (ap_cons (ch_at _ rfl rfl (doesO_of (does_assign rfl) ?_)) (ap_nil))
        refine ⟨⟨(fun _ h => List.Sublist.subset (.cons _ (.cons _ (.cons _ (.cons _ (.cons_cons _ (List.nil_sublist _)))))) h), .inr (fun _ h => List.Sublist.subset (.cons _ (.cons _ (.cons _ (.cons _ (.cons_cons _ (List.nil_sublist _)))))) h)⟩, ?_⟩
        exact ch_end ⟨(v4, us5, v8, us9), (cc rfl (cc rfl (cc rfl (cc rfl (cc rfl (cc rfl (cc rfl (cc rfl cn)))))))), (pm 0 rfl (pm 0 rfl (pm 0 rfl (pm 0 rfl (pm 0 rfl (pr _))))))⟩
      · refine ⟨⟨(fun _ h => List.Sublist.subset (.cons _ (.cons _ (.cons_cons _ (List.nil_sublist _)))) h), .inr (fun _ h => List.Sublist.subset (.cons _ (.cons _ (.cons_cons _ (List.nil_sublist _)))) h)⟩, ?_⟩
        refine ch_step [3] rfl (ap_cons (ch_at _ rfl rfl (doesO_makeM lU 137 1 el89 l6 hm7 rfl rfl (fun v8 us9 => ?_))) (ap_nil))
        refine ⟨⟨(fun _ h => List.Sublist.subset (.cons _ (.cons _ (.cons _ (.cons _ (.cons_cons _ (List.nil_sublist _)))))) h), .inr (fun _ h => List.Sublist.subset (.cons _ (.cons _ (.cons _ (.cons _ (.cons_cons _ (List.nil_sublist _)))))) h)⟩, ?_⟩
        exact ch_end ⟨(v4, us5, v8, us9), (cc rfl (cc rfl (cc rfl (cc rfl (cc rfl (cc rfl (cc rfl (cc rfl cn)))))))), (pm 0 rfl (pm 0 rfl (pm 0 rfl (pm 0 rfl (pm 0 rfl (pr _))))))⟩
    · refine ⟨⟨(fun _ h => List.Sublist.subset (.cons _ (.cons _ (.cons_cons _ (List.nil_sublist _)))) h), .inr (fun _ h => List.Sublist.subset (.cons _ (.cons _ (.cons_cons _ (List.nil_sublist _)))) h)⟩, ?_⟩
      refine ch_step [1] rfl (ap_cons (ch_at _ rfl rfl (doesO_makeM lU 137 1 el89 l2 hm3 rfl rfl (fun v4 us5 => ?_))) (ap_nil))
      refine ⟨⟨(fun _ h => List.Sublist.subset (.cons _ (.cons _ (.cons _ (.cons _ (.cons_cons _ (List.nil_sublist _)))))) h), .inr (fun _ h => List.Sublist.subset (.cons _ (.cons _ (.cons _ (.cons _ (.cons_cons _ (List.nil_sublist _)))))) h)⟩, ?_⟩
      refine ch_step [4] rfl (ap_cons (ch_at _ rfl rfl (doesO_of (does_assign rfl) ?_)) (ap_nil))
      refine ⟨⟨(fun _ h => List.Sublist.subset (.cons _ (.cons _ (.cons _ (.cons _ (.cons_cons _ (List.nil_sublist _)))))) h), .inr (fun _ h => List.Sublist.subset (.cons _ (.cons _ (.cons _ (.cons _ (.cons_cons _ (List.nil_sublist _)))))) h)⟩, ?_⟩
      exact ch_end ⟨(v4, us5, v8, us9), (cc rfl (cc rfl (cc rfl (cc rfl (cc rfl (cc rfl (cc rfl (cc rfl cn)))))))), (pm 2 rfl (pm 2 rfl (pm 0 rfl (pm 0 rfl (pm 0 rfl (pr _))))))⟩

def liveness_Blocks_l1 (K : Nat) (r5 : (List (List Int)) × (List (List Int))) : Nat → (Int × (List (List Int)) × (List (List Int))) → Option ((List (List Int)) × (List (List Int)))
  | 0, _ => none
  | k + 1, s12 => (cnd (decide (s12.1 < ((r5.1).length : Int))) (Option.bind (idx r5.1 s12.1) (fun y15 => (Option.bind (liveness_set_list K y15) (fun r17 => (Option.bind (app 24 s12.2.2 ([r17] : List (List Int))) (fun l19 => (Option.bind (idx r5.2 s12.1) (fun y22 => (Option.bind (liveness_set_list K y22) (fun r24 => (Option.bind (app 24 s12.2.1 ([r24] : List (List Int))) (fun l26 => (liveness_Blocks_l1 K r5 k ((w64 (s12.1 + 1)), l26, l19)))))))))))))) (some (s12.2.1, s12.2.2)))

def liveness_Blocks (K : Nat) (a0 : VFunc) : Option ((List (List Int)) × (List (List Int))) :=
  (Option.bind (vcode_Valid K a0) (fun r2 => (cnd (!r2) (some (([] : List (List Int)), ([] : List (List Int)))) (Option.bind (liveness_analyze K a0) (fun r5 => (Option.bind (liveness_Blocks_l1 K r5 K (0, ([] : List (List Int)), ([] : List (List Int)))) (fun s7 => (some (s7.2, s7.1)))))))))

theorem c_liveness_Blocks (K : Nat) (a0 : VFunc) (r : (List (List Int)) × (List (List Int))) (h : liveness_Blocks K a0 = some r) : CallP Tryd.prog glob 22 [(Ty.agg [(tI a0.Params), (tI a0.Regs), (tL 5 Block.ty a0.Blocks)])] (Ty.tup [(tL 1 lIs r.1), (tL 1 lIs r.2)]) := by
  refine call_of_code Tryd.func22 rfl Tryd.ntmps22 rfl (fun L w => ?_)
  change OkC _ _ _ [(0, (Ty.agg [(tI a0.Params), (tI a0.Regs), (tL 5 Block.ty a0.Blocks)]))] (L)
  unfold liveness_Blocks at h
  refine okC_seq ?_
  refine okC_region ?_
  refine okL_stepO 1 rfl rfl (doesO_box [(tI a0.Params), (tI a0.Regs), (tL 5 Block.ty a0.Blocks)] rfl (part_agg _) (fun g1 => ?_))
  refine okL_step 2 (Ty.val (.slice none 0 0)) rfl rfl (does_assign rfl) ?_
  refine okL_step 3 (Ty.val (.slice none 0 0)) rfl rfl (does_assign rfl) ?_
  refine okL_nil ?_
  refine okX_next ?_
  refine okC_seq ?_
  refine okC_seq ?_
  refine okC_region ?_
  refine okL_step 9 (Ty.agg [(tI a0.Params), (tI a0.Regs), (tL 5 Block.ty a0.Blocks)]) rfl rfl (does_loadBA [(tI a0.Params), (tI a0.Regs), (tL 5 Block.ty a0.Blocks)] Tryd.isAgg27 Tryd.sizeOf27 rfl 0 rfl rfl rfl) ?_
  obtain ⟨r2, hc3, h⟩ := bs h
  refine okL_step 10 (tB r2) rfl rfl (does_call0 (c_vcode_Valid K a0 r2 hc3) rfl Tryd.call63 rfl) ?_
  refine okL_step 11 (tB (!r2)) rfl rfl (does_not rfl) ?_
  refine okL_nil ?_
  refine okX_next ?_
  refine okC_cond (b := (!r2)) rfl (fun hb4 => ?_) (fun hb4 => ?_)
  · replace h := ct hb4 h
    refine okC_seq ?_
    refine okC_region ?_
    refine okL_step 2 (Ty.val (.slice none 0 0)) rfl rfl (does_assign rfl) ?_
    refine okL_step 3 (Ty.val (.slice none 0 0)) rfl rfl (does_assign rfl) ?_
    refine okL_nil ?_
    refine okX_next ?_
    refine okC_ret ?_
    refine okX_then_ret ?_
    obtain rfl := (smh h).symm
    refine okX_sub 2 (tL 1 lIs ([] : List (List Int))) rfl (sub_nil _) ?_
    refine okX_sub 3 (tL 1 lIs ([] : List (List Int))) rfl (sub_nil _) ?_
    refine okX_items [Item.blk g1 27 [(tI a0.Params), (tI a0.Regs), (tL 5 Block.ty a0.Blocks)]] (L) (pm 0 rfl (pr _)) ?_
    exact okX_ret2 () Tryd.results22 rfl rfl rfl rfl
  · replace h := cf hb4 h
    refine okC_skip ?_
    refine okX_next ?_
    refine okC_seq ?_
    refine okC_region ?_
    refine okL_step 13 (Ty.agg [(tI a0.Params), (tI a0.Regs), (tL 5 Block.ty a0.Blocks)]) rfl rfl (does_loadBA [(tI a0.Params), (tI a0.Regs), (tL 5 Block.ty a0.Blocks)] Tryd.isAgg27 Tryd.sizeOf27 rfl 0 rfl rfl rfl) ?_
    obtain ⟨r5, hc6, h⟩ := bs h
    refine okL_step 14 (Ty.tup [(tL 1 ls_SU r5.1), (tL 1 ls_SU r5.2)]) rfl rfl (does_call0 (c_liveness_analyze K a0 r5 hc6) rfl Tryd.call64 rfl) ?_
    refine okL_step 12 (Ty.tup [(tL 1 ls_SU r5.1), (tL 1 ls_SU r5.2)]) rfl rfl (does_move rfl) ?_
    refine okL_step 15 (tL 1 ls_SU r5.1) rfl rfl (does_extract rfl rfl) ?_
    refine okL_step 16 (tL 1 ls_SU r5.2) rfl rfl (does_extract rfl rfl) ?_
    refine okL_step 4 (tL 1 ls_SU r5.1) rfl rfl (does_assign rfl) ?_
    refine okL_step 5 (tL 1 ls_SU r5.2) rfl rfl (does_assign rfl) ?_
    refine okL_nil ?_
    refine okX_next ?_
    refine okC_seq ?_
    refine okC_region ?_
    refine okL_step 6 (Ty.val (.slice none 0 0)) rfl rfl (does_assign rfl) ?_
    refine okL_step 7 (Ty.val (.slice none 0 0)) rfl rfl (does_assign rfl) ?_
    refine okL_nil ?_
    refine okX_next ?_
    refine okC_seq ?_
    refine okC_seq ?_
    refine okC_region ?_
    refine okL_step 17 (tL 1 ls_SU r5.1) rfl rfl (does_move rfl) ?_
    refine okL_step 18 (tI ((r5.1).length : Int)) rfl rfl (does_len (sz := 1) (f := ls_SU) (l := r5.1) rfl Tryd.underlying89 rfl) ?_
    refine okL_step 19 (tI 0) rfl rfl (does_move rfl) ?_
    refine okL_nil ?_
    refine okX_next ?_
    refine okC_nilrow (sz := 1) lIs 31 6 rfl ?_
    refine okC_nilrow (sz := 1) lIs 31 7 rfl ?_
    obtain ⟨z9, h11, hz10⟩ := bs h
    refine okC_meetE (X := (((List (List Int)) × (List (List Int))) × (Value × Value))) (fun x => z9 = x.1) (fun x : (((List (List Int)) × (List (List Int))) × (Value × Value)) => [(6, (Ty.own x.2.2)), (7, (Ty.own x.2.1))]) (fun x : (((List (List Int)) × (List (List Int))) × (Value × Value)) => rowL x.2.1 31 1 lIs x.1.1 :: rowL x.2.2 31 1 lIs x.1.2 :: Item.blk g1 27 [(tI a0.Params), (tI a0.Regs), (tL 5 Block.ty a0.Blocks)] :: L) ?_ ?_
    · refine okC_block ?_
      refine okC_loop (X := ((Int × (List (List Int)) × (List (List Int))) × (Value × Value))) (fun k x => liveness_Blocks_l1 K r5 k x.1 = some z9) (fun x : ((Int × (List (List Int)) × (List (List Int))) × (Value × Value)) => [(4, (tL 1 ls_SU r5.1)), (5, (tL 1 ls_SU r5.2)), (6, (Ty.own x.2.2)), (7, (Ty.own x.2.1)), (18, (tI ((r5.1).length : Int))), (19, (tI x.1.1))]) (fun x : ((Int × (List (List Int)) × (List (List Int))) × (Value × Value)) => rowL x.2.1 31 1 lIs x.1.2.1 :: rowL x.2.2 31 1 lIs x.1.2.2 :: Item.blk g1 27 [(tI a0.Params), (tI a0.Regs), (tL 5 Block.ty a0.Blocks)] :: L) K ((0, ([] : List (List Int)), ([] : List (List Int))), ((.slice none 0 0), (.slice none 0 0))) h11 (cc rfl (cc rfl (cc rfl (cc rfl (cc rfl (cc rfl cn)))))) rfl (fun k x hI => ?_)
      obtain ⟨s12, w13⟩ := x
      change OkC _ _ _ [(4, (tL 1 ls_SU r5.1)), (5, (tL 1 ls_SU r5.2)), (6, (Ty.own w13.2)), (7, (Ty.own w13.1)), (18, (tI ((r5.1).length : Int))), (19, (tI s12.1))] (rowL w13.1 31 1 lIs s12.2.1 :: rowL w13.2 31 1 lIs s12.2.2 :: Item.blk g1 27 [(tI a0.Params), (tI a0.Regs), (tL 5 Block.ty a0.Blocks)] :: L)
      cases k with
      | zero => exact (nz hI).elim
      | succ k =>
        have h : liveness_Blocks_l1 K r5 (k + 1) s12 = some z9 := hI
        rw [liveness_Blocks_l1.eq_2] at h
        refine okC_seq ?_
        refine okC_region ?_
        refine okL_step 20 (tB (decide (s12.1 < ((r5.1).length : Int)))) rfl rfl (does_lss rfl rfl) ?_
        refine okL_nil ?_
        refine okX_next ?_
        refine okC_seq ?_
        refine okC_cond (b := (decide (s12.1 < ((r5.1).length : Int)))) rfl (fun hb14 => ?_) (fun hb14 => ?_)
        · replace h := ct hb14 h
          refine okC_skip ?_
          refine okX_next ?_
          refine okC_seq ?_
          refine okC_block ?_
          refine okC_seq ?_
          refine okC_region ?_
          refine okL_step 21 (tI s12.1) rfl rfl (does_move rfl) ?_
          refine okL_step 8 (tI s12.1) rfl rfl (does_assign rfl) ?_
          refine okL_nil ?_
          refine okX_next ?_
          refine okC_cov [(4, (tL 1 ls_SU r5.1)), (5, (tL 1 ls_SU r5.2)), (6, (Ty.own w13.2)), (7, (Ty.own w13.1)), (8, (tI s12.1)), (18, (tI ((r5.1).length : Int))), (19, (tI s12.1))] (cc rfl (cc rfl (cc rfl (cc rfl (cc rfl (cc rfl (cc rfl cn))))))) ?_
          obtain ⟨y15, hi16, h⟩ := bs h
          obtain ⟨r17, hc18, h⟩ := bs h
          obtain ⟨l19, ha20, h⟩ := bs h
          obtain ⟨y22, hi23, h⟩ := bs h
          obtain ⟨r24, hc25, h⟩ := bs h
          refine okC_draw 15 [some (22, (Ty.own w13.2)), some (23, (tL 1 ls_SU r5.1)), some (24, (tI s12.1)), some (25, (Ty.ptr [(tL 1 lU y15)])), some (26, (tL 1 lU y15)), some (27, (tL 1 lI r17)), some (28, (tL 1 lIs ([r17] : List (List Int)))), none, some (30, (Ty.own w13.1)), some (31, (tL 1 ls_SU r5.2)), some (32, (tI s12.1)), some (33, (Ty.ptr [(tL 1 lU y22)])), some (34, (tL 1 lU y22)), some (35, (tL 1 lI r24)), some (36, (tL 1 lIs ([r24] : List (List Int))))] ⟨rowL w13.1 31 1 lIs s12.2.1 :: Item.blk g1 27 [(tI a0.Params), (tI a0.Regs), (tL 5 Block.ty a0.Blocks)] :: ([] : List Item), rowL w13.1 31 1 lIs s12.2.1 :: rowL w13.2 31 1 lIs s12.2.2 :: Item.blk g1 27 [(tI a0.Params), (tI a0.Regs), (tL 5 Block.ty a0.Blocks)] :: ([] : List Item), [7]⟩ [7] mixed rfl rfl (by kernel_rfl) rfl (by kernel_rfl) rfl rfl rfl (fun _ h => List.Sublist.subset (.cons_cons _ (.cons _ (.cons_cons _ (List.nil_sublist _)))) h) (fun _ h => List.Sublist.subset (.cons_cons _ (.cons_cons _ (.cons_cons _ (List.nil_sublist _)))) h) rfl (by kernel_rfl) (.inr ⟨by kernel_rfl, by kernel_rfl⟩) (by kernel_rfl) (by kernel_rfl) (dc (draw_plain rfl (does_move rfl)) (dc (draw_plain rfl (does_move rfl)) (dc (draw_plain rfl (does_move rfl)) (dc (draw_plain rfl (does_index (sz := 1) (f := ls_SU) (l := r5.1) (n := s12.1) y15 Tryd.underlying89 Tryd.sizeOf93 hi16 rfl rfl)) (dc (draw_plain rfl (does_load1 Tryd.isAgg93 rfl)) (dc (draw_plain rfl (does_call0 (d_liveness_set_list K y15 r17 hc18) rfl Tryd.call65 rfl)) (dc (draw_plain rfl (does_buildSlice (f := lIs) ([r17] : List (List Int)) [(tL 1 lI r17)] el22 rfl rfl rfl (fc [(tL 1 lI r17)] 0 rfl (part_one (one_slice _ _)) rfl rfl (fn_ rfl)) rfl (fun _ => rfl))) (ds (dc (draw_plain rfl (does_move rfl)) (dc (draw_plain rfl (does_move rfl)) (dc (draw_plain rfl (does_move rfl)) (dc (draw_plain rfl (does_index (sz := 1) (f := ls_SU) (l := r5.2) (n := s12.1) y22 Tryd.underlying89 Tryd.sizeOf93 hi23 rfl rfl)) (dc (draw_plain rfl (does_load1 Tryd.isAgg93 rfl)) (dc (draw_plain rfl (does_call0 (d_liveness_set_list K y22 r24 hc25) rfl Tryd.call65 rfl)) (dc (draw_plain rfl (does_buildSlice (f := lIs) ([r24] : List (List Int)) [(tL 1 lI r24)] el22 rfl rfl rfl (fc [(tL 1 lI r24)] 0 rfl (part_one (one_slice _ _)) rfl rfl (fn_ rfl)) rfl (fun _ => rfl))) (dn)))))))))))))))) ?_
          refine ch_step [7] rfl (ap_cons (ch_at _ rfl rfl (doesO_append (f := lIs) (l := s12.2.2) (m := ([r17] : List (List Int))) el22 1 l19 (fun v21 => rowL w13.1 31 1 lIs s12.2.1 :: rowL v21 31 1 lIs l19 :: Item.blk g1 27 [(tI a0.Params), (tI a0.Regs), (tL 5 Block.ty a0.Blocks)] :: L) ha20 rfl rfl rfl (fun _ => rfl) (fun v21 => ?_))) (ap_nil))
          refine ⟨⟨(fun _ h => List.Sublist.subset (.cons_cons _ (.cons _ (.cons_cons _ (List.nil_sublist _)))) h), .inl rfl⟩, ?_⟩
          refine ch_end ?_
          change OkL _ _ _ _ [(22, (Ty.own w13.2)), (23, (tL 1 ls_SU r5.1)), (24, (tI s12.1)), (25, (Ty.ptr [(tL 1 lU y15)])), (26, (tL 1 lU y15)), (27, (tL 1 lI r17)), (28, (tL 1 lIs ([r17] : List (List Int)))), (30, (Ty.own w13.1)), (31, (tL 1 ls_SU r5.2)), (32, (tI s12.1)), (33, (Ty.ptr [(tL 1 lU y22)])), (34, (tL 1 lU y22)), (35, (tL 1 lI r24)), (36, (tL 1 lIs ([r24] : List (List Int)))), (29, (Ty.own v21)), (4, (tL 1 ls_SU r5.1)), (5, (tL 1 ls_SU r5.2)), (6, (Ty.own w13.2)), (7, (Ty.own w13.1)), (8, (tI s12.1)), (18, (tI ((r5.1).length : Int))), (19, (tI s12.1))] (rowL w13.1 31 1 lIs s12.2.1 :: rowL v21 31 1 lIs l19 :: Item.blk g1 27 [(tI a0.Params), (tI a0.Regs), (tL 5 Block.ty a0.Blocks)] :: L)
          obtain ⟨l26, ha27, h⟩ := bs h
          refine okL_stepO 37 rfl rfl (doesO_append (f := lIs) (l := s12.2.1) (m := ([r24] : List (List Int))) el22 0 l26 (fun v28 => rowL v28 31 1 lIs l26 :: rowL v21 31 1 lIs l19 :: Item.blk g1 27 [(tI a0.Params), (tI a0.Regs), (tL 5 Block.ty a0.Blocks)] :: L) ha27 rfl rfl rfl (fun _ => rfl) (fun v28 => ?_))
          refine okL_step 6 (Ty.own v21) rfl rfl (does_assign rfl) ?_
          refine okL_step 7 (Ty.own v28) rfl rfl (does_assign rfl) ?_
          refine okL_nil ?_
          refine okX_block_normal ?_
          refine okX_next ?_
          refine okC_region ?_
          refine okL_step 38 (tI (w64 (s12.1 + 1))) rfl rfl (does_add rfl rfl) ?_
          refine okL_step 19 (tI (w64 (s12.1 + 1))) rfl rfl (does_move rfl) ?_
          refine okL_nil ?_
          exact okX_again k (Nat.lt_succ_self k) (((w64 (s12.1 + 1)), l26, l19), (v28, v21)) h (cc rfl (cc rfl (cc rfl (cc rfl (cc rfl (cc rfl cn)))))) rfl
        · replace h := cf hb14 h
          refine okC_exit ?_
          refine okX_then_exit ?_
          refine okX_again_exit ?_
          refine okX_block_hit ?_
          exact okX_meet (I := _) ((s12.2.1, s12.2.2), (w13.1, w13.2)) (smh h) (cc rfl (cc rfl cn)) rfl
    · intro x hx
      obtain ⟨s7, w8⟩ := x
      change OkX _ _ _ [(6, (Ty.own w8.2)), (7, (Ty.own w8.1))] (rowL w8.1 31 1 lIs s7.1 :: rowL w8.2 31 1 lIs s7.2 :: Item.blk g1 27 [(tI a0.Params), (tI a0.Regs), (tL 5 Block.ty a0.Blocks)] :: L)
      obtain rfl : s7 = z9 := hx.symm
      replace h := hz10
      refine okX_next ?_
      refine okC_seq ?_
      refine okC_region ?_
      refine okL_step 39 (Ty.own w8.2) rfl rfl (does_move rfl) ?_
      refine okL_step 40 (Ty.own w8.1) rfl rfl (does_move rfl) ?_
      refine okL_step 2 (Ty.own w8.2) rfl rfl (does_assign rfl) ?_
      refine okL_step 3 (Ty.own w8.1) rfl rfl (does_assign rfl) ?_
      refine okL_nil ?_
      refine okX_next ?_
      refine okC_ret ?_
      obtain rfl := (smh h).symm
      refine okX_publish 1 [6, 39, 2] (rowL w8.1 31 1 lIs s7.1 :: Item.blk g1 27 [(tI a0.Params), (tI a0.Regs), (tL 5 Block.ty a0.Blocks)] :: L) rfl (ac rfl (ac rfl (ac rfl an))) rfl ?_
      refine okX_publish 0 [7, 40, 3] (Item.blk g1 27 [(tI a0.Params), (tI a0.Regs), (tL 5 Block.ty a0.Blocks)] :: L) rfl (ac rfl (ac rfl (ac rfl an))) rfl ?_
      refine okX_items [Item.blk g1 27 [(tI a0.Params), (tI a0.Regs), (tL 5 Block.ty a0.Blocks)]] (L) (pm 0 rfl (pr _)) ?_
      exact okX_ret2 () Tryd.results22 rfl rfl rfl rfl

def liveness_Points_l1 (K : Nat) (y9 : Block) : Nat → (Int × (List (List Int)) × (List Int)) → Option ((List (List Int)) × (List Int))
  | 0, _ => none
  | k + 1, s33 => (cnd (decide (s33.1 ≥ 0)) (Option.bind (idx y9.Instrs s33.1) (fun y36 => (Option.bind (liveness_transfer K s33.2.2 y36) (fun r38 => (Option.bind (liveness_set_list K r38) (fun r40 => (Option.bind (idx s33.2.1 s33.1) (fun y43 => (liveness_Points_l1 K y9 k ((w64 (s33.1 - 1)), (s33.2.1.set s33.1.toNat r40), r38)))))))))) (some (s33.2.1, s33.2.2)))

def liveness_Points (K : Nat) (a0 : VFunc) (a1 : Int) : Option (List (List Int)) :=
  (Option.bind (vcode_Valid K a0) (fun r2 => (cnd (((!r2) || (decide (a1 < 0))) || (decide (a1 ≥ ((a0.Blocks).length : Int)))) (some ([] : List (List Int))) (Option.bind (liveness_analyze K a0) (fun r7 => (Option.bind (idx a0.Blocks a1) (fun y9 => (Option.bind (idx r7.2 a1) (fun y13 => (Option.bind (app 8 ([] : List Int) y13) (fun l15 => (Option.bind (liveness_addTerminator l15 y9) (fun r18 => (Option.bind (mk 24 (w64 (((y9.Instrs).length : Int) + 1)) ([] : List Int)) (fun l20 => (Option.bind (liveness_set_list K r18) (fun r23 => (Option.bind (idx l20 ((y9.Instrs).length : Int)) (fun y26 => (Option.bind (liveness_Points_l1 K y9 K ((w64 (((y9.Instrs).length : Int) - 1)), (l20.set ((y9.Instrs).length : Int).toNat r23), r18)) (fun s28 => (some s28.1))))))))))))))))))))))

theorem c_liveness_Points (K : Nat) (a0 : VFunc) (a1 : Int) (r : (List (List Int))) (h : liveness_Points K a0 a1 = some r) : CallP Tryd.prog glob 24 [(Ty.agg [(tI a0.Params), (tI a0.Regs), (tL 5 Block.ty a0.Blocks)]), (tI a1)] (tL 1 lIs r) := by
  refine call_of_code Tryd.func24 rfl Tryd.ntmps24 rfl (fun L w => ?_)
  change OkC _ _ _ [(0, (Ty.agg [(tI a0.Params), (tI a0.Regs), (tL 5 Block.ty a0.Blocks)])), (1, (tI a1))] (L)
  unfold liveness_Points at h
  refine okC_seq ?_
  refine okC_region ?_
  refine okL_stepO 2 rfl rfl (doesO_box [(tI a0.Params), (tI a0.Regs), (tL 5 Block.ty a0.Blocks)] rfl (part_agg _) (fun g1 => ?_))
  refine okL_step 4 (Ty.val (.slice none 0 0)) rfl rfl (does_assign rfl) ?_
  refine okL_nil ?_
  refine okX_next ?_
  refine okC_seq ?_
  refine okC_seq ?_
  refine okC_region ?_
  refine okL_step 11 (Ty.agg [(tI a0.Params), (tI a0.Regs), (tL 5 Block.ty a0.Blocks)]) rfl rfl (does_loadBA [(tI a0.Params), (tI a0.Regs), (tL 5 Block.ty a0.Blocks)] Tryd.isAgg27 Tryd.sizeOf27 rfl 0 rfl rfl rfl) ?_
  obtain ⟨r2, hc3, h⟩ := bs h
  refine okL_step 12 (tB r2) rfl rfl (does_call0 (c_vcode_Valid K a0 r2 hc3) rfl Tryd.call63 rfl) ?_
  refine okL_step 13 (tB (!r2)) rfl rfl (does_not rfl) ?_
  refine okL_step 14 (tB (!r2)) rfl rfl (does_move rfl) ?_
  refine okL_meet (X := Bool) 3 (fun x => x = ((!r2) || (decide (a1 < 0)))) (fun x : Bool => [(1, (tI a1)), (2, (pAt g1 0)), (17, (tB x))]) (fun x : Bool => Item.blk g1 27 [(tI a0.Params), (tI a0.Regs), (tL 5 Block.ty a0.Blocks)] :: L) _ rfl ?_ ?_
  · refine okL_split (!r2) (fun hb4 => ?_) (fun hb4 => ?_)
    · refine okL_skip 15 14 (!r2) rfl rfl hb4 rfl rfl ?_
      refine okL_skip 16 14 (!r2) rfl rfl hb4 rfl rfl ?_
      refine okL_step 17 (tB true) rfl rfl (does_pick_t (!r2) rfl hb4 rfl) ?_
      refine okL_nil ?_
      exact okX_meet (I := _) true (or_t hb4) (cc rfl (cc rfl (cc rfl cn))) rfl
    · refine okL_guard 15 (tI a1) 14 (!r2) rfl rfl hb4 rfl rfl (does_move rfl) ?_
      refine okL_guard 16 (tB (decide (a1 < 0))) 14 (!r2) rfl rfl hb4 rfl rfl (does_lss rfl rfl) ?_
      refine okL_step 17 (tB (decide (a1 < 0))) rfl rfl (does_pick_f (!r2) rfl hb4 rfl) ?_
      refine okL_nil ?_
      exact okX_meet (I := _) (decide (a1 < 0)) (or_f hb4) (cc rfl (cc rfl (cc rfl cn))) rfl
  · intro x46 hx
    subst hx
    change OkL _ _ _ _ [(1, (tI a1)), (2, (pAt g1 0)), (17, (tB ((!r2) || (decide (a1 < 0)))))] (Item.blk g1 27 [(tI a0.Params), (tI a0.Regs), (tL 5 Block.ty a0.Blocks)] :: L)
    refine okL_step 18 (tB ((!r2) || (decide (a1 < 0)))) rfl rfl (does_move rfl) ?_
    refine okL_meet (X := Bool) 6 (fun x => x = (((!r2) || (decide (a1 < 0))) || (decide (a1 ≥ ((a0.Blocks).length : Int))))) (fun x : Bool => [(1, (tI a1)), (2, (pAt g1 0)), (24, (tB x))]) (fun x : Bool => Item.blk g1 27 [(tI a0.Params), (tI a0.Regs), (tL 5 Block.ty a0.Blocks)] :: L) _ rfl ?_ ?_
    · refine okL_split ((!r2) || (decide (a1 < 0))) (fun hb5 => ?_) (fun hb5 => ?_)
      · refine okL_skip 19 18 ((!r2) || (decide (a1 < 0))) rfl rfl hb5 rfl rfl ?_
        refine okL_skip 20 18 ((!r2) || (decide (a1 < 0))) rfl rfl hb5 rfl rfl ?_
        refine okL_skip 21 18 ((!r2) || (decide (a1 < 0))) rfl rfl hb5 rfl rfl ?_
        refine okL_skip 22 18 ((!r2) || (decide (a1 < 0))) rfl rfl hb5 rfl rfl ?_
        refine okL_skip 23 18 ((!r2) || (decide (a1 < 0))) rfl rfl hb5 rfl rfl ?_
        refine okL_step 24 (tB true) rfl rfl (does_pick_t ((!r2) || (decide (a1 < 0))) rfl hb5 rfl) ?_
        refine okL_nil ?_
        exact okX_meet (I := _) true (or_t hb5) (cc rfl (cc rfl (cc rfl cn))) rfl
      · refine okL_guard 19 (tI a1) 18 ((!r2) || (decide (a1 < 0))) rfl rfl hb5 rfl rfl (does_move rfl) ?_
        refine okL_guard 20 (pAt g1 2) 18 ((!r2) || (decide (a1 < 0))) rfl rfl hb5 rfl rfl (does_fieldAddrP 2 Tryd.underlying27 rfl Tryd.sizeOf25 rfl rfl) ?_
        refine okL_guard 21 (tL 5 Block.ty a0.Blocks) 18 ((!r2) || (decide (a1 < 0))) rfl rfl hb5 rfl rfl (does_loadB1 Tryd.isAgg25 rfl 0 rfl rfl) ?_
        refine okL_guard 22 (tI ((a0.Blocks).length : Int)) 18 ((!r2) || (decide (a1 < 0))) rfl rfl hb5 rfl rfl (does_len (sz := 5) (f := Block.ty) (l := a0.Blocks) rfl Tryd.underlying25 rfl) ?_
        refine okL_guard 23 (tB (decide (a1 ≥ ((a0.Blocks).length : Int)))) 18 ((!r2) || (decide (a1 < 0))) rfl rfl hb5 rfl rfl (does_geq rfl rfl) ?_
        refine okL_step 24 (tB (decide (a1 ≥ ((a0.Blocks).length : Int)))) rfl rfl (does_pick_f ((!r2) || (decide (a1 < 0))) rfl hb5 rfl) ?_
        refine okL_nil ?_
        exact okX_meet (I := _) (decide (a1 ≥ ((a0.Blocks).length : Int))) (or_f hb5) (cc rfl (cc rfl (cc rfl cn))) rfl
    · intro x45 hx
      subst hx
      change OkL _ _ _ _ [(1, (tI a1)), (2, (pAt g1 0)), (24, (tB (((!r2) || (decide (a1 < 0))) || (decide (a1 ≥ ((a0.Blocks).length : Int))))))] (Item.blk g1 27 [(tI a0.Params), (tI a0.Regs), (tL 5 Block.ty a0.Blocks)] :: L)
      refine okL_nil ?_
      refine okX_next ?_
      refine okC_cond (b := (((!r2) || (decide (a1 < 0))) || (decide (a1 ≥ ((a0.Blocks).length : Int))))) rfl (fun hb6 => ?_) (fun hb6 => ?_)
      · replace h := ct hb6 h
        refine okC_seq ?_
        refine okC_region ?_
        refine okL_step 4 (Ty.val (.slice none 0 0)) rfl rfl (does_assign rfl) ?_
        refine okL_nil ?_
        refine okX_next ?_
        refine okC_ret ?_
        refine okX_then_ret ?_
        obtain rfl := (smh h).symm
        refine okX_sub 4 (tL 1 lIs ([] : List (List Int))) rfl (sub_nil _) ?_
        refine okX_items [Item.blk g1 27 [(tI a0.Params), (tI a0.Regs), (tL 5 Block.ty a0.Blocks)]] (L) (pm 0 rfl (pr _)) ?_
        exact okX_ret1 () Tryd.results24 rfl rfl
      · replace h := cf hb6 h
        refine okC_skip ?_
        refine okX_next ?_
        refine okC_seq ?_
        refine okC_region ?_
        refine okL_step 26 (Ty.agg [(tI a0.Params), (tI a0.Regs), (tL 5 Block.ty a0.Blocks)]) rfl rfl (does_loadBA [(tI a0.Params), (tI a0.Regs), (tL 5 Block.ty a0.Blocks)] Tryd.isAgg27 Tryd.sizeOf27 rfl 0 rfl rfl rfl) ?_
        obtain ⟨r7, hc8, h⟩ := bs h
        refine okL_step 27 (Ty.tup [(tL 1 ls_SU r7.1), (tL 1 ls_SU r7.2)]) rfl rfl (does_call0 (c_liveness_analyze K a0 r7 hc8) rfl Tryd.call64 rfl) ?_
        refine okL_step 25 (Ty.tup [(tL 1 ls_SU r7.1), (tL 1 ls_SU r7.2)]) rfl rfl (does_move rfl) ?_
        refine okL_step 28 (tL 1 ls_SU r7.1) rfl rfl (does_extract rfl rfl) ?_
        refine okL_step 29 (tL 1 ls_SU r7.2) rfl rfl (does_extract rfl rfl) ?_
        refine okL_step 5 (tL 1 ls_SU r7.1) rfl rfl (does_assign rfl) ?_
        refine okL_step 6 (tL 1 ls_SU r7.2) rfl rfl (does_assign rfl) ?_
        refine okL_nil ?_
        refine okX_next ?_
        refine okC_seq ?_
        refine okC_region ?_
        refine okL_step 30 (pAt g1 2) rfl rfl (does_fieldAddrP 2 Tryd.underlying27 rfl Tryd.sizeOf25 rfl rfl) ?_
        refine okL_step 31 (tL 5 Block.ty a0.Blocks) rfl rfl (does_loadB1 Tryd.isAgg25 rfl 0 rfl rfl) ?_
        refine okL_step 32 (tI a1) rfl rfl (does_move rfl) ?_
        obtain ⟨y9, hi10, h⟩ := bs h
        refine okL_step 33 (Ty.ptr [(tL 6 VInstr.ty y9.Instrs), (tI y9.End), (tI y9.Reg), (tI y9.Target), (tI y9.Else)]) rfl rfl (does_index (sz := 5) (f := Block.ty) (l := a0.Blocks) (n := a1) y9 Tryd.underlying25 Tryd.sizeOf43 hi10 rfl rfl) ?_
        refine okL_step 34 (Ty.agg [(tL 6 VInstr.ty y9.Instrs), (tI y9.End), (tI y9.Reg), (tI y9.Target), (tI y9.Else)]) rfl rfl (does_loadA [(tL 6 VInstr.ty y9.Instrs), (tI y9.End), (tI y9.Reg), (tI y9.Target), (tI y9.Else)] Tryd.isAgg43 Tryd.sizeOf43 rfl rfl rfl) ?_
        refine okL_stepO 7 rfl rfl (doesO_alloc [(Ty.val (.slice none 0 0)), (tI 0), (tI 0), (tI 0), (tI 0)] Tryd.zeroValue43 (part_of (sub_agg [(.slice none 0 0), (.int .i64 0), (.int .i64 0), (.int .i64 0), (.int .i64 0)] rfl) (part_agg _)) (fun g11 => ?_))
        refine okL_stepU rfl (doesO_storeB (ps := [(tL 6 VInstr.ty y9.Instrs), (tI y9.End), (tI y9.Reg), (tI y9.Target), (tI y9.Else)]) 0 [(tL 6 VInstr.ty y9.Instrs), (tI y9.End), (tI y9.Reg), (tI y9.Target), (tI y9.Else)] (Item.blk g11 43 [(tL 6 VInstr.ty y9.Instrs), (tI y9.End), (tI y9.Reg), (tI y9.Target), (tI y9.Else)] :: Item.blk g1 27 [(tI a0.Params), (tI a0.Regs), (tL 5 Block.ty a0.Blocks)] :: L) rfl rfl (part_agg _) Tryd.sizeOf43 rfl rfl rfl rfl ?_)
        refine okL_nil ?_
        refine okX_next ?_
        refine okC_seq ?_
        refine okC_region ?_
        refine okL_stepO 35 rfl rfl (doesO_build0 (f := lU) el93 (fun v12 => ?_))
        refine okL_step 36 (tL 1 ls_SU r7.2) rfl rfl (does_move rfl) ?_
        refine okL_step 37 (tI a1) rfl rfl (does_move rfl) ?_
        obtain ⟨y13, hi14, h⟩ := bs h
        refine okL_step 38 (Ty.ptr [(tL 1 lU y13)]) rfl rfl (does_index (sz := 1) (f := ls_SU) (l := r7.2) (n := a1) y13 Tryd.underlying89 Tryd.sizeOf93 hi14 rfl rfl) ?_
        refine okL_step 39 (tL 1 lU y13) rfl rfl (does_load1 Tryd.isAgg93 rfl) ?_
        obtain ⟨l15, ha16, h⟩ := bs h
        refine okL_stepO 40 rfl rfl (doesO_append (f := lU) (l := ([] : List Int)) (m := y13) el93 0 l15 (fun v17 => rowL v17 137 1 lU l15 :: Item.blk g11 43 [(tL 6 VInstr.ty y9.Instrs), (tI y9.End), (tI y9.Reg), (tI y9.Target), (tI y9.Else)] :: Item.blk g1 27 [(tI a0.Params), (tI a0.Regs), (tL 5 Block.ty a0.Blocks)] :: L) ha16 rfl rfl rfl (fun _ => rfl) (fun v17 => ?_))
        refine okL_step 8 (Ty.own v17) rfl rfl (does_assign rfl) ?_
        refine okL_nil ?_
        refine okX_next ?_
        refine okC_seq ?_
        refine okC_region ?_
        refine okL_step 41 (Ty.own v17) rfl rfl (does_move rfl) ?_
        refine okL_step 42 (Ty.agg [(tL 6 VInstr.ty y9.Instrs), (tI y9.End), (tI y9.Reg), (tI y9.Target), (tI y9.Else)]) rfl rfl (does_loadBA [(tL 6 VInstr.ty y9.Instrs), (tI y9.End), (tI y9.Reg), (tI y9.Target), (tI y9.Else)] Tryd.isAgg43 Tryd.sizeOf43 rfl 1 rfl rfl rfl) ?_
        obtain ⟨r18, hc19, h⟩ := bs h
        refine okL_stepO 43 rfl rfl (doesO_call0 (Item.blk g11 43 [(tL 6 VInstr.ty y9.Instrs), (tI y9.End), (tI y9.Reg), (tI y9.Target), (tI y9.Else)] :: Item.blk g1 27 [(tI a0.Params), (tI a0.Regs), (tL 5 Block.ty a0.Blocks)] :: L) (c_liveness_addTerminator l15 y9 v17 r18 hc19) rfl Tryd.call67 rfl (pm 0 rfl (pr _)) (fun _ => ?_))
        refine okL_nil ?_
        refine okX_next ?_
        refine okC_seq ?_
        refine okC_region ?_
        refine okL_step 44 (pAt g11 0) rfl rfl (does_fieldAddrP 0 Tryd.underlying43 rfl Tryd.sizeOf41 rfl rfl) ?_
        refine okL_step 45 (tL 6 VInstr.ty y9.Instrs) rfl rfl (does_loadB1 Tryd.isAgg41 rfl 1 rfl rfl) ?_
        refine okL_step 46 (tI ((y9.Instrs).length : Int)) rfl rfl (does_len (sz := 6) (f := VInstr.ty) (l := y9.Instrs) rfl Tryd.underlying41 rfl) ?_
        refine okL_step 47 (tI (w64 (((y9.Instrs).length : Int) + 1))) rfl rfl (does_add rfl rfl) ?_
        obtain ⟨l20, hm21, h⟩ := bs h
        refine okL_stepO 48 rfl rfl (doesO_make (f := lIs) el22 ([] : List Int) l20 hm21 rfl rfl (part_sub (part_one (one_val rfl)) (.cons (sub_nil _) SubL.nil)) (fun v22 => ?_))
        refine okL_step 9 (Ty.own v22) rfl rfl (does_assign rfl) ?_
        refine okL_nil ?_
        refine okX_next ?_
        refine okC_seq ?_
        refine okC_cov [(7, (pAt g11 0)), (8, (Ty.own v17)), (9, (Ty.own v22))] (cc rfl (cc rfl (cc rfl cn))) ?_
        obtain ⟨r23, hc24, h⟩ := bs h
        refine okC_draw 6 [some (49, (Ty.own v22)), some (50, (pAt g11 0)), some (51, (tL 6 VInstr.ty y9.Instrs)), some (52, (tI ((y9.Instrs).length : Int))), some (53, (Ty.own v17)), none] ⟨rowL v22 31 1 lIs l20 :: rowL v17 137 1 lU r18 :: Item.blk g11 43 [(tL 6 VInstr.ty y9.Instrs), (tI y9.End), (tI y9.Reg), (tI y9.Target), (tI y9.Else)] :: Item.blk g1 27 [(tI a0.Params), (tI a0.Regs), (tL 5 Block.ty a0.Blocks)] :: ([] : List Item), rowL v22 31 1 lIs l20 :: rowL v17 137 1 lU r18 :: Item.blk g11 43 [(tL 6 VInstr.ty y9.Instrs), (tI y9.End), (tI y9.Reg), (tI y9.Target), (tI y9.Else)] :: Item.blk g1 27 [(tI a0.Params), (tI a0.Regs), (tL 5 Block.ty a0.Blocks)] :: ([] : List Item), []⟩ [5] mixed rfl rfl (by kernel_rfl) rfl (by kernel_rfl) rfl rfl rfl (fun _ h => List.Sublist.subset (.cons_cons _ (.cons_cons _ (.cons_cons _ (.cons_cons _ (List.nil_sublist _))))) h) (fun _ h => List.Sublist.subset (.cons_cons _ (.cons_cons _ (.cons_cons _ (.cons_cons _ (List.nil_sublist _))))) h) rfl (by kernel_rfl) (.inr ⟨by kernel_rfl, by kernel_rfl⟩) (by kernel_rfl) (by kernel_rfl) (dc (draw_plain rfl (does_move rfl)) (dc (draw_plain rfl (does_fieldAddrP 0 Tryd.underlying43 rfl Tryd.sizeOf41 rfl rfl)) (dc (draw_plain rfl (does_loadB1 Tryd.isAgg41 rfl 2 rfl rfl)) (dc (draw_plain rfl (does_len (sz := 6) (f := VInstr.ty) (l := y9.Instrs) rfl Tryd.underlying41 rfl)) (dc (draw_plain rfl (does_move rfl)) (ds (dn))))))) ?_
        refine ch_step [5] rfl (ap_cons (ch_at _ rfl rfl (doesO_callZ (rowL v22 31 1 lIs l20 :: rowL v17 137 1 lU r18 :: Item.blk g11 43 [(tL 6 VInstr.ty y9.Instrs), (tI y9.End), (tI y9.Reg), (tI y9.Target), (tI y9.Else)] :: Item.blk g1 27 [(tI a0.Params), (tI a0.Regs), (tL 5 Block.ty a0.Blocks)] :: L) (c_liveness_set_list K r18 r23 hc24) (fun _ => (ex_own _)) (fun _ => (.cons (ex_row exI) ExIts.nil)) rfl Tryd.call65 (.lend 1 rfl rfl ArgLend.nil) (pr _) (fun v25 => ?_))) (ap_nil))
        refine ⟨⟨(fun _ h => List.Sublist.subset (.cons _ (.cons_cons _ (.cons_cons _ (.cons_cons _ (.cons_cons _ (List.nil_sublist _)))))) h), .inr (fun _ h => List.Sublist.subset (.cons _ (.cons_cons _ (.cons_cons _ (.cons_cons _ (.cons_cons _ (List.nil_sublist _)))))) h)⟩, ?_⟩
        refine ch_end ?_
        change OkL _ _ _ _ [(49, (Ty.own v22)), (50, (pAt g11 0)), (51, (tL 6 VInstr.ty y9.Instrs)), (52, (tI ((y9.Instrs).length : Int))), (53, (Ty.own v17)), (54, (Ty.own v25)), (7, (pAt g11 0)), (8, (Ty.own v17)), (9, (Ty.own v22))] (rowL v25 3 1 lI r23 :: rowL v22 31 1 lIs l20 :: rowL v17 137 1 lU r18 :: Item.blk g11 43 [(tL 6 VInstr.ty y9.Instrs), (tI y9.End), (tI y9.Reg), (tI y9.Target), (tI y9.Else)] :: Item.blk g1 27 [(tI a0.Params), (tI a0.Regs), (tL 5 Block.ty a0.Blocks)] :: L)
        obtain ⟨y26, hi27, h⟩ := bs h
        refine okL_step 55 (Ty.rptr v22 (((y9.Instrs).length : Int).toNat * 1)) rfl rfl (does_indexR (f := lIs) (l := l20) (m := ((y9.Instrs).length : Int)) el22 1 y26 hi27 rfl rfl rfl) ?_
        refine okL_publish 0 [54] (rowL v22 31 1 lIs l20 :: rowL v17 137 1 lU r18 :: Item.blk g11 43 [(tL 6 VInstr.ty y9.Instrs), (tI y9.End), (tI y9.Reg), (tI y9.Target), (tI y9.Else)] :: Item.blk g1 27 [(tI a0.Params), (tI a0.Regs), (tL 5 Block.ty a0.Blocks)] :: L) rfl (ac rfl an) rfl ?_
        refine okL_stepU rfl (doesO_storeR (f := lIs) (l := l20) (sz := 1) (ps := [(tL 1 lI r23)]) (y0 := y26) (y1 := r23) (m := ((y9.Instrs).length : Int)) 0 0 (l20.set ((y9.Instrs).length : Int).toNat r23) (rowL v22 31 1 lIs (l20.set ((y9.Instrs).length : Int).toNat r23) :: rowL v17 137 1 lU r18 :: Item.blk g11 43 [(tL 6 VInstr.ty y9.Instrs), (tI y9.End), (tI y9.Reg), (tI y9.Target), (tI y9.Else)] :: Item.blk g1 27 [(tI a0.Params), (tI a0.Regs), (tL 5 Block.ty a0.Blocks)] :: L) rfl rfl (part_one (one_slice _ _)) Tryd.sizeOf31 rfl hi27 rfl rfl rfl rfl rfl ?_)
        refine okL_nil ?_
        refine okX_next ?_
        refine okC_seq ?_
        refine okC_seq ?_
        refine okC_region ?_
        refine okL_step 56 (pAt g11 0) rfl rfl (does_fieldAddrP 0 Tryd.underlying43 rfl Tryd.sizeOf41 rfl rfl) ?_
        refine okL_step 57 (tL 6 VInstr.ty y9.Instrs) rfl rfl (does_loadB1 Tryd.isAgg41 rfl 2 rfl rfl) ?_
        refine okL_step 58 (tI ((y9.Instrs).length : Int)) rfl rfl (does_len (sz := 6) (f := VInstr.ty) (l := y9.Instrs) rfl Tryd.underlying41 rfl) ?_
        refine okL_step 59 (tI (w64 (((y9.Instrs).length : Int) - 1))) rfl rfl (does_sub rfl rfl) ?_
        refine okL_step 10 (tI (w64 (((y9.Instrs).length : Int) - 1))) rfl rfl (does_assign rfl) ?_
        refine okL_nil ?_
        refine okX_next ?_
        obtain ⟨z30, h32, hz31⟩ := bs h
        refine okC_meetE (X := ((List (List Int)) × (List Int))) (fun x => z30 = x) (fun x : ((List (List Int)) × (List Int)) => [(9, (Ty.own v22))]) (fun x : ((List (List Int)) × (List Int)) => rowL v22 31 1 lIs x.1 :: rowL v17 137 1 lU x.2 :: Item.blk g11 43 [(tL 6 VInstr.ty y9.Instrs), (tI y9.End), (tI y9.Reg), (tI y9.Target), (tI y9.Else)] :: Item.blk g1 27 [(tI a0.Params), (tI a0.Regs), (tL 5 Block.ty a0.Blocks)] :: L) ?_ ?_
        · refine okC_block ?_
          refine okC_loop (X := (Int × (List (List Int)) × (List Int))) (fun k x => liveness_Points_l1 K y9 k x = some z30) (fun x : (Int × (List (List Int)) × (List Int)) => [(7, (pAt g11 0)), (8, (Ty.own v17)), (9, (Ty.own v22)), (10, (tI x.1))]) (fun x : (Int × (List (List Int)) × (List Int)) => rowL v22 31 1 lIs x.2.1 :: rowL v17 137 1 lU x.2.2 :: Item.blk g11 43 [(tL 6 VInstr.ty y9.Instrs), (tI y9.End), (tI y9.Reg), (tI y9.Target), (tI y9.Else)] :: Item.blk g1 27 [(tI a0.Params), (tI a0.Regs), (tL 5 Block.ty a0.Blocks)] :: L) K ((w64 (((y9.Instrs).length : Int) - 1)), (l20.set ((y9.Instrs).length : Int).toNat r23), r18) h32 (cc rfl (cc rfl (cc rfl (cc rfl cn)))) rfl (fun k s33 hI => ?_)
          change OkC _ _ _ [(7, (pAt g11 0)), (8, (Ty.own v17)), (9, (Ty.own v22)), (10, (tI s33.1))] (rowL v22 31 1 lIs s33.2.1 :: rowL v17 137 1 lU s33.2.2 :: Item.blk g11 43 [(tL 6 VInstr.ty y9.Instrs), (tI y9.End), (tI y9.Reg), (tI y9.Target), (tI y9.Else)] :: Item.blk g1 27 [(tI a0.Params), (tI a0.Regs), (tL 5 Block.ty a0.Blocks)] :: L)
          cases k with
          | zero => exact (nz hI).elim
          | succ k =>
            have h : liveness_Points_l1 K y9 (k + 1) s33 = some z30 := hI
            rw [liveness_Points_l1.eq_2] at h
            refine okC_seq ?_
            refine okC_seq ?_
            refine okC_region ?_
            refine okL_step 60 (tI s33.1) rfl rfl (does_move rfl) ?_
            refine okL_step 61 (tB (decide (s33.1 ≥ 0))) rfl rfl (does_geq rfl rfl) ?_
            refine okL_nil ?_
            refine okX_next ?_
            refine okC_cond (b := (decide (s33.1 ≥ 0))) rfl (fun hb35 => ?_) (fun hb35 => ?_)
            · replace h := ct hb35 h
              refine okC_skip ?_
              refine okX_next ?_
              refine okC_seq ?_
              refine okC_block ?_
              refine okC_seq ?_
              refine okC_region ?_
              refine okL_step 64 (Ty.own v17) rfl rfl (does_move rfl) ?_
              refine okL_step 65 (pAt g11 0) rfl rfl (does_fieldAddrP 0 Tryd.underlying43 rfl Tryd.sizeOf41 rfl rfl) ?_
              refine okL_step 66 (tL 6 VInstr.ty y9.Instrs) rfl rfl (does_loadB1 Tryd.isAgg41 rfl 2 rfl rfl) ?_
              refine okL_step 67 (tI s33.1) rfl rfl (does_move rfl) ?_
              obtain ⟨y36, hi37, h⟩ := bs h
              refine okL_step 68 (Ty.ptr [(tI y36.Instr.Op), (tI y36.Instr.A), (tI y36.Instr.B), (tI y36.Instr.C), (tI y36.Instr.N), (tL 1 lI y36.Args)]) rfl rfl (does_index (sz := 6) (f := VInstr.ty) (l := y9.Instrs) (n := s33.1) y36 Tryd.underlying41 Tryd.sizeOf48 hi37 rfl rfl) ?_
              refine okL_step 69 (Ty.agg [(tI y36.Instr.Op), (tI y36.Instr.A), (tI y36.Instr.B), (tI y36.Instr.C), (tI y36.Instr.N), (tL 1 lI y36.Args)]) rfl rfl (does_loadA [(tI y36.Instr.Op), (tI y36.Instr.A), (tI y36.Instr.B), (tI y36.Instr.C), (tI y36.Instr.N), (tL 1 lI y36.Args)] Tryd.isAgg48 Tryd.sizeOf48 rfl rfl rfl) ?_
              obtain ⟨r38, hc39, h⟩ := bs h
              refine okL_stepO 70 rfl rfl (doesO_call0 (rowL v22 31 1 lIs s33.2.1 :: Item.blk g11 43 [(tL 6 VInstr.ty y9.Instrs), (tI y9.End), (tI y9.Reg), (tI y9.Target), (tI y9.Else)] :: Item.blk g1 27 [(tI a0.Params), (tI a0.Regs), (tL 5 Block.ty a0.Blocks)] :: L) (c_liveness_transfer K s33.2.2 y36 v17 r38 hc39) rfl Tryd.call68 rfl (pm 1 rfl (pr _)) (fun _ => ?_))
              refine okL_nil ?_
              refine okX_next ?_
              refine okC_region ?_
              refine okL_step 71 (Ty.own v22) rfl rfl (does_move rfl) ?_
              refine okL_step 72 (tI s33.1) rfl rfl (does_move rfl) ?_
              refine okL_step 73 (Ty.own v17) rfl rfl (does_move rfl) ?_
              obtain ⟨r40, hc41, h⟩ := bs h
              refine okL_stepO 74 rfl rfl (doesO_callZ (rowL v17 137 1 lU r38 :: rowL v22 31 1 lIs s33.2.1 :: Item.blk g11 43 [(tL 6 VInstr.ty y9.Instrs), (tI y9.End), (tI y9.Reg), (tI y9.Target), (tI y9.Else)] :: Item.blk g1 27 [(tI a0.Params), (tI a0.Regs), (tL 5 Block.ty a0.Blocks)] :: L) (c_liveness_set_list K r38 r40 hc41) (fun _ => (ex_own _)) (fun _ => (.cons (ex_row exI) ExIts.nil)) rfl Tryd.call65 (.lend 0 rfl rfl ArgLend.nil) (pr _) (fun v42 => ?_))
              obtain ⟨y43, hi44, h⟩ := bs h
              refine okL_step 75 (Ty.rptr v22 (s33.1.toNat * 1)) rfl rfl (does_indexR (f := lIs) (l := s33.2.1) (m := s33.1) el22 2 y43 hi44 rfl rfl rfl) ?_
              refine okL_publish 0 [74] (rowL v17 137 1 lU r38 :: rowL v22 31 1 lIs s33.2.1 :: Item.blk g11 43 [(tL 6 VInstr.ty y9.Instrs), (tI y9.End), (tI y9.Reg), (tI y9.Target), (tI y9.Else)] :: Item.blk g1 27 [(tI a0.Params), (tI a0.Regs), (tL 5 Block.ty a0.Blocks)] :: L) rfl (ac rfl an) rfl ?_
              refine okL_stepU rfl (doesO_storeR (f := lIs) (l := s33.2.1) (sz := 1) (ps := [(tL 1 lI r40)]) (y0 := y43) (y1 := r40) (m := s33.1) 1 0 (s33.2.1.set s33.1.toNat r40) (rowL v17 137 1 lU r38 :: rowL v22 31 1 lIs (s33.2.1.set s33.1.toNat r40) :: Item.blk g11 43 [(tL 6 VInstr.ty y9.Instrs), (tI y9.End), (tI y9.Reg), (tI y9.Target), (tI y9.Else)] :: Item.blk g1 27 [(tI a0.Params), (tI a0.Regs), (tL 5 Block.ty a0.Blocks)] :: L) rfl rfl (part_one (one_slice _ _)) Tryd.sizeOf31 rfl hi44 rfl rfl rfl rfl rfl ?_)
              refine okL_nil ?_
              refine okX_block_normal ?_
              refine okX_next ?_
              refine okC_region ?_
              refine okL_step 62 (tI s33.1) rfl rfl (does_move rfl) ?_
              refine okL_step 63 (tI (w64 (s33.1 - 1))) rfl rfl (does_sub rfl rfl) ?_
              refine okL_step 10 (tI (w64 (s33.1 - 1))) rfl rfl (does_assign rfl) ?_
              refine okL_nil ?_
              refine okX_items [] (rowL v22 31 1 lIs (s33.2.1.set s33.1.toNat r40) :: rowL v17 137 1 lU r38 :: Item.blk g11 43 [(tL 6 VInstr.ty y9.Instrs), (tI y9.End), (tI y9.Reg), (tI y9.Target), (tI y9.Else)] :: Item.blk g1 27 [(tI a0.Params), (tI a0.Regs), (tL 5 Block.ty a0.Blocks)] :: L) (pm 1 rfl (pm 0 rfl (pm 0 rfl (pm 0 rfl (pr _))))) ?_
              exact okX_again k (Nat.lt_succ_self k) ((w64 (s33.1 - 1)), (s33.2.1.set s33.1.toNat r40), r38) h (cc rfl (cc rfl (cc rfl (cc rfl cn)))) rfl
            · replace h := cf hb35 h
              refine okC_exit ?_
              refine okX_then_exit ?_
              refine okX_again_exit ?_
              refine okX_block_hit ?_
              exact okX_meet (I := _) (s33.2.1, s33.2.2) (smh h) (cc rfl cn) rfl
        · intro s28 hx
          change OkX _ _ _ [(9, (Ty.own v22))] (rowL v22 31 1 lIs s28.1 :: rowL v17 137 1 lU s28.2 :: Item.blk g11 43 [(tL 6 VInstr.ty y9.Instrs), (tI y9.End), (tI y9.Reg), (tI y9.Target), (tI y9.Else)] :: Item.blk g1 27 [(tI a0.Params), (tI a0.Regs), (tL 5 Block.ty a0.Blocks)] :: L)
          obtain rfl : s28 = z30 := hx.symm
          replace h := hz31
          refine okX_next ?_
          refine okC_seq ?_
          refine okC_region ?_
          refine okL_step 76 (Ty.own v22) rfl rfl (does_move rfl) ?_
          refine okL_step 4 (Ty.own v22) rfl rfl (does_assign rfl) ?_
          refine okL_nil ?_
          refine okX_next ?_
          refine okC_ret ?_
          obtain rfl := (smh h).symm
          refine okX_publish 0 [9, 76, 4] (rowL v17 137 1 lU s28.2 :: Item.blk g11 43 [(tL 6 VInstr.ty y9.Instrs), (tI y9.End), (tI y9.Reg), (tI y9.Target), (tI y9.Else)] :: Item.blk g1 27 [(tI a0.Params), (tI a0.Regs), (tL 5 Block.ty a0.Blocks)] :: L) rfl (ac rfl (ac rfl (ac rfl an))) rfl ?_
          refine okX_items [rowL v17 137 1 lU s28.2, Item.blk g11 43 [(tL 6 VInstr.ty y9.Instrs), (tI y9.End), (tI y9.Reg), (tI y9.Target), (tI y9.Else)], Item.blk g1 27 [(tI a0.Params), (tI a0.Regs), (tL 5 Block.ty a0.Blocks)]] (L) (pm 0 rfl (pm 0 rfl (pm 0 rfl (pr _)))) ?_
          exact okX_ret1 () Tryd.results24 rfl rfl

def liveness_AcrossCalls_l3 (K : Nat) (y37 : VInstr) : Nat → (Int × (List Int)) → Option (List Int)
  | 0, _ => none
  | k + 1, s57 => (cnd (decide (s57.1 < ((y37.Args).length : Int))) (Option.bind (idx y37.Args s57.1) (fun y60 => (Option.bind (liveness_set_add s57.2 y60) (fun r62 => (liveness_AcrossCalls_l3 K y37 k ((w64 (s57.1 + 1)), r62)))))) (some s57.2))

def liveness_AcrossCalls_l2 (K : Nat) (y18 : Block) : Nat → (Int × (List Int) × (List Int)) → Option ((List Int) × (List Int))
  | 0, _ => none
  | k + 1, s34 => (cnd (decide (s34.1 ≥ 0)) (Option.bind (idx y18.Instrs s34.1) (fun y37 => (Option.bind (cnd (y37.Instr.Op == 6) (Option.bind (app 8 ([] : List Int) s34.2.1) (fun l47 => (Option.bind (liveness_set_remove l47 y37.Instr.A) (fun r50 => (Option.bind (liveness_AcrossCalls_l3 K y37 K (0, r50)) (fun s52 => (Option.bind (liveness_set_union K s34.2.2 s52) (fun r64 => (some r64.2))))))))) (some s34.2.2)) (fun s40 => (Option.bind (liveness_transfer K s34.2.1 y37) (fun r66 => (liveness_AcrossCalls_l2 K y18 k ((w64 (s34.1 - 1)), r66, s40)))))))) (some (s34.2.1, s34.2.2)))

def liveness_AcrossCalls_l1 (K : Nat) (a0 : VFunc) (r5 : (List (List Int)) × (List (List Int))) : Nat → (Int × (List Int)) → Option (List Int)
  | 0, _ => none
  | k + 1, s15 => (cnd (decide (s15.1 < ((a0.Blocks).length : Int))) (Option.bind (idx a0.Blocks s15.1) (fun y18 => (Option.bind (idx r5.2 s15.1) (fun y22 => (Option.bind (app 8 ([] : List Int) y22) (fun l24 => (Option.bind (liveness_addTerminator l24 y18) (fun r27 => (Option.bind (liveness_AcrossCalls_l2 K y18 K ((w64 (((y18.Instrs).length : Int) - 1)), r27, s15.2)) (fun s29 => (liveness_AcrossCalls_l1 K a0 r5 k ((w64 (s15.1 + 1)), s29.2)))))))))))) (some s15.2))

def liveness_AcrossCalls (K : Nat) (a0 : VFunc) : Option (List Int) :=
  (Option.bind (vcode_Valid K a0) (fun r2 => (cnd (!r2) (some ([] : List Int)) (Option.bind (liveness_analyze K a0) (fun r5 => (Option.bind (liveness_empty a0.Regs) (fun r7 => (Option.bind (liveness_AcrossCalls_l1 K a0 r5 K (0, r7)) (fun s10 => (Option.bind (liveness_set_list K s10) (fun r68 => (some r68))))))))))))

theorem c_liveness_AcrossCalls (K : Nat) (a0 : VFunc) (r : (List Int)) (h : liveness_AcrossCalls K a0 = some r) : CallP Tryd.prog glob 27 [(Ty.agg [(tI a0.Params), (tI a0.Regs), (tL 5 Block.ty a0.Blocks)])] (tL 1 lI r) := by
  refine call_of_code Tryd.func27 rfl Tryd.ntmps27 rfl (fun L w => ?_)
  change OkC _ _ _ [(0, (Ty.agg [(tI a0.Params), (tI a0.Regs), (tL 5 Block.ty a0.Blocks)]))] (L)
  unfold liveness_AcrossCalls at h
  refine okC_seq ?_
  refine okC_region ?_
  refine okL_stepO 1 rfl rfl (doesO_box [(tI a0.Params), (tI a0.Regs), (tL 5 Block.ty a0.Blocks)] rfl (part_agg _) (fun g1 => ?_))
  refine okL_step 2 (Ty.val (.slice none 0 0)) rfl rfl (does_assign rfl) ?_
  refine okL_nil ?_
  refine okX_next ?_
  refine okC_seq ?_
  refine okC_seq ?_
  refine okC_region ?_
  refine okL_step 14 (Ty.agg [(tI a0.Params), (tI a0.Regs), (tL 5 Block.ty a0.Blocks)]) rfl rfl (does_loadBA [(tI a0.Params), (tI a0.Regs), (tL 5 Block.ty a0.Blocks)] Tryd.isAgg27 Tryd.sizeOf27 rfl 0 rfl rfl rfl) ?_
  obtain ⟨r2, hc3, h⟩ := bs h
  refine okL_step 15 (tB r2) rfl rfl (does_call0 (c_vcode_Valid K a0 r2 hc3) rfl Tryd.call63 rfl) ?_
  refine okL_step 16 (tB (!r2)) rfl rfl (does_not rfl) ?_
  refine okL_nil ?_
  refine okX_next ?_
  refine okC_cond (b := (!r2)) rfl (fun hb4 => ?_) (fun hb4 => ?_)
  · replace h := ct hb4 h
    refine okC_seq ?_
    refine okC_region ?_
    refine okL_step 2 (Ty.val (.slice none 0 0)) rfl rfl (does_assign rfl) ?_
    refine okL_nil ?_
    refine okX_next ?_
    refine okC_ret ?_
    refine okX_then_ret ?_
    obtain rfl := (smh h).symm
    refine okX_sub 2 (tL 1 lI ([] : List Int)) rfl (sub_nil _) ?_
    refine okX_items [Item.blk g1 27 [(tI a0.Params), (tI a0.Regs), (tL 5 Block.ty a0.Blocks)]] (L) (pm 0 rfl (pr _)) ?_
    exact okX_ret1 () Tryd.results27 rfl rfl
  · replace h := cf hb4 h
    refine okC_skip ?_
    refine okX_next ?_
    refine okC_seq ?_
    refine okC_region ?_
    refine okL_step 18 (Ty.agg [(tI a0.Params), (tI a0.Regs), (tL 5 Block.ty a0.Blocks)]) rfl rfl (does_loadBA [(tI a0.Params), (tI a0.Regs), (tL 5 Block.ty a0.Blocks)] Tryd.isAgg27 Tryd.sizeOf27 rfl 0 rfl rfl rfl) ?_
    obtain ⟨r5, hc6, h⟩ := bs h
    refine okL_step 19 (Ty.tup [(tL 1 ls_SU r5.1), (tL 1 ls_SU r5.2)]) rfl rfl (does_call0 (c_liveness_analyze K a0 r5 hc6) rfl Tryd.call64 rfl) ?_
    refine okL_step 17 (Ty.tup [(tL 1 ls_SU r5.1), (tL 1 ls_SU r5.2)]) rfl rfl (does_move rfl) ?_
    refine okL_step 20 (tL 1 ls_SU r5.1) rfl rfl (does_extract rfl rfl) ?_
    refine okL_step 21 (tL 1 ls_SU r5.2) rfl rfl (does_extract rfl rfl) ?_
    refine okL_step 3 (tL 1 ls_SU r5.1) rfl rfl (does_assign rfl) ?_
    refine okL_step 4 (tL 1 ls_SU r5.2) rfl rfl (does_assign rfl) ?_
    refine okL_nil ?_
    refine okX_next ?_
    refine okC_seq ?_
    refine okC_region ?_
    refine okL_step 22 (pAt g1 1) rfl rfl (does_fieldAddrP 1 Tryd.underlying27 rfl Tryd.sizeOf3 rfl rfl) ?_
    refine okL_step 23 (tI a0.Regs) rfl rfl (does_loadB1 Tryd.isAgg3 rfl 0 rfl rfl) ?_
    obtain ⟨r7, hc8, h⟩ := bs h
    refine okL_stepO 24 rfl rfl (doesO_call0 (Item.blk g1 27 [(tI a0.Params), (tI a0.Regs), (tL 5 Block.ty a0.Blocks)] :: L) (c_liveness_empty a0.Regs r7 hc8) rfl Tryd.call70 rfl (pr _) (fun v9 => ?_))
    refine okL_step 5 (Ty.own v9) rfl rfl (does_assign rfl) ?_
    refine okL_nil ?_
    refine okX_next ?_
    refine okC_seq ?_
    refine okC_seq ?_
    refine okC_region ?_
    refine okL_step 25 (pAt g1 2) rfl rfl (does_fieldAddrP 2 Tryd.underlying27 rfl Tryd.sizeOf25 rfl rfl) ?_
    refine okL_step 26 (tL 5 Block.ty a0.Blocks) rfl rfl (does_loadB1 Tryd.isAgg25 rfl 1 rfl rfl) ?_
    refine okL_step 27 (tI ((a0.Blocks).length : Int)) rfl rfl (does_len (sz := 5) (f := Block.ty) (l := a0.Blocks) rfl Tryd.underlying25 rfl) ?_
    refine okL_step 28 (tI 0) rfl rfl (does_move rfl) ?_
    refine okL_nil ?_
    refine okX_next ?_
    obtain ⟨z12, h14, hz13⟩ := bs h
    refine okC_meetE (X := (List Int)) (fun x => z12 = x) (fun x : (List Int) => [(5, (Ty.own v9))]) (fun x : (List Int) => rowL v9 137 1 lU x :: Item.blk g1 27 [(tI a0.Params), (tI a0.Regs), (tL 5 Block.ty a0.Blocks)] :: L) ?_ ?_
    · refine okC_block ?_
      refine okC_loop (X := (Int × (List Int))) (fun k x => liveness_AcrossCalls_l1 K a0 r5 k x = some z12) (fun x : (Int × (List Int)) => [(4, (tL 1 ls_SU r5.2)), (5, (Ty.own v9)), (26, (tL 5 Block.ty a0.Blocks)), (27, (tI ((a0.Blocks).length : Int))), (28, (tI x.1))]) (fun x : (Int × (List Int)) => rowL v9 137 1 lU x.2 :: Item.blk g1 27 [(tI a0.Params), (tI a0.Regs), (tL 5 Block.ty a0.Blocks)] :: L) K (0, r7) h14 (cc rfl (cc rfl (cc rfl (cc rfl (cc rfl cn))))) rfl (fun k s15 hI => ?_)
      change OkC _ _ _ [(4, (tL 1 ls_SU r5.2)), (5, (Ty.own v9)), (26, (tL 5 Block.ty a0.Blocks)), (27, (tI ((a0.Blocks).length : Int))), (28, (tI s15.1))] (rowL v9 137 1 lU s15.2 :: Item.blk g1 27 [(tI a0.Params), (tI a0.Regs), (tL 5 Block.ty a0.Blocks)] :: L)
      cases k with
      | zero => exact (nz hI).elim
      | succ k =>
        have h : liveness_AcrossCalls_l1 K a0 r5 (k + 1) s15 = some z12 := hI
        rw [liveness_AcrossCalls_l1.eq_2] at h
        refine okC_seq ?_
        refine okC_region ?_
        refine okL_step 29 (tB (decide (s15.1 < ((a0.Blocks).length : Int)))) rfl rfl (does_lss rfl rfl) ?_
        refine okL_nil ?_
        refine okX_next ?_
        refine okC_seq ?_
        refine okC_cond (b := (decide (s15.1 < ((a0.Blocks).length : Int)))) rfl (fun hb17 => ?_) (fun hb17 => ?_)
        · replace h := ct hb17 h
          refine okC_skip ?_
          refine okX_next ?_
          refine okC_seq ?_
          refine okC_block ?_
          refine okC_seq ?_
          refine okC_region ?_
          refine okL_step 30 (tI s15.1) rfl rfl (does_move rfl) ?_
          obtain ⟨y18, hi19, h⟩ := bs h
          refine okL_step 31 (Ty.ptr [(tL 6 VInstr.ty y18.Instrs), (tI y18.End), (tI y18.Reg), (tI y18.Target), (tI y18.Else)]) rfl rfl (does_index (sz := 5) (f := Block.ty) (l := a0.Blocks) (n := s15.1) y18 Tryd.underlying25 Tryd.sizeOf43 hi19 rfl rfl) ?_
          refine okL_step 32 (Ty.agg [(tL 6 VInstr.ty y18.Instrs), (tI y18.End), (tI y18.Reg), (tI y18.Target), (tI y18.Else)]) rfl rfl (does_loadA [(tL 6 VInstr.ty y18.Instrs), (tI y18.End), (tI y18.Reg), (tI y18.Target), (tI y18.Else)] Tryd.isAgg43 Tryd.sizeOf43 rfl rfl rfl) ?_
          refine okL_stepO 7 rfl rfl (doesO_alloc [(Ty.val (.slice none 0 0)), (tI 0), (tI 0), (tI 0), (tI 0)] Tryd.zeroValue43 (part_of (sub_agg [(.slice none 0 0), (.int .i64 0), (.int .i64 0), (.int .i64 0), (.int .i64 0)] rfl) (part_agg _)) (fun g20 => ?_))
          refine okL_step 6 (tI s15.1) rfl rfl (does_assign rfl) ?_
          refine okL_stepU rfl (doesO_storeB (ps := [(tL 6 VInstr.ty y18.Instrs), (tI y18.End), (tI y18.Reg), (tI y18.Target), (tI y18.Else)]) 0 [(tL 6 VInstr.ty y18.Instrs), (tI y18.End), (tI y18.Reg), (tI y18.Target), (tI y18.Else)] (Item.blk g20 43 [(tL 6 VInstr.ty y18.Instrs), (tI y18.End), (tI y18.Reg), (tI y18.Target), (tI y18.Else)] :: rowL v9 137 1 lU s15.2 :: Item.blk g1 27 [(tI a0.Params), (tI a0.Regs), (tL 5 Block.ty a0.Blocks)] :: L) rfl rfl (part_agg _) Tryd.sizeOf43 rfl rfl rfl rfl ?_)
          refine okL_nil ?_
          refine okX_next ?_
          refine okC_seq ?_
          refine okC_region ?_
          refine okL_stepO 33 rfl rfl (doesO_build0 (f := lU) el93 (fun v21 => ?_))
          refine okL_step 34 (tL 1 ls_SU r5.2) rfl rfl (does_move rfl) ?_
          refine okL_step 35 (tI s15.1) rfl rfl (does_move rfl) ?_
          obtain ⟨y22, hi23, h⟩ := bs h
          refine okL_step 36 (Ty.ptr [(tL 1 lU y22)]) rfl rfl (does_index (sz := 1) (f := ls_SU) (l := r5.2) (n := s15.1) y22 Tryd.underlying89 Tryd.sizeOf93 hi23 rfl rfl) ?_
          refine okL_step 37 (tL 1 lU y22) rfl rfl (does_load1 Tryd.isAgg93 rfl) ?_
          obtain ⟨l24, ha25, h⟩ := bs h
          refine okL_stepO 38 rfl rfl (doesO_append (f := lU) (l := ([] : List Int)) (m := y22) el93 0 l24 (fun v26 => rowL v26 137 1 lU l24 :: Item.blk g20 43 [(tL 6 VInstr.ty y18.Instrs), (tI y18.End), (tI y18.Reg), (tI y18.Target), (tI y18.Else)] :: rowL v9 137 1 lU s15.2 :: Item.blk g1 27 [(tI a0.Params), (tI a0.Regs), (tL 5 Block.ty a0.Blocks)] :: L) ha25 rfl rfl rfl (fun _ => rfl) (fun v26 => ?_))
          refine okL_step 8 (Ty.own v26) rfl rfl (does_assign rfl) ?_
          refine okL_nil ?_
          refine okX_next ?_
          refine okC_seq ?_
          refine okC_region ?_
          refine okL_step 39 (Ty.own v26) rfl rfl (does_move rfl) ?_
          refine okL_step 40 (Ty.agg [(tL 6 VInstr.ty y18.Instrs), (tI y18.End), (tI y18.Reg), (tI y18.Target), (tI y18.Else)]) rfl rfl (does_loadBA [(tL 6 VInstr.ty y18.Instrs), (tI y18.End), (tI y18.Reg), (tI y18.Target), (tI y18.Else)] Tryd.isAgg43 Tryd.sizeOf43 rfl 1 rfl rfl rfl) ?_
          obtain ⟨r27, hc28, h⟩ := bs h
          refine okL_stepO 41 rfl rfl (doesO_call0 (Item.blk g20 43 [(tL 6 VInstr.ty y18.Instrs), (tI y18.End), (tI y18.Reg), (tI y18.Target), (tI y18.Else)] :: rowL v9 137 1 lU s15.2 :: Item.blk g1 27 [(tI a0.Params), (tI a0.Regs), (tL 5 Block.ty a0.Blocks)] :: L) (c_liveness_addTerminator l24 y18 v26 r27 hc28) rfl Tryd.call67 rfl (pm 0 rfl (pr _)) (fun _ => ?_))
          refine okL_nil ?_
          refine okX_next ?_
          refine okC_seq ?_
          refine okC_region ?_
          refine okL_step 42 (pAt g20 0) rfl rfl (does_fieldAddrP 0 Tryd.underlying43 rfl Tryd.sizeOf41 rfl rfl) ?_
          refine okL_step 43 (tL 6 VInstr.ty y18.Instrs) rfl rfl (does_loadB1 Tryd.isAgg41 rfl 1 rfl rfl) ?_
          refine okL_step 44 (tI ((y18.Instrs).length : Int)) rfl rfl (does_len (sz := 6) (f := VInstr.ty) (l := y18.Instrs) rfl Tryd.underlying41 rfl) ?_
          refine okL_step 45 (tI (w64 (((y18.Instrs).length : Int) - 1))) rfl rfl (does_sub rfl rfl) ?_
          refine okL_step 9 (tI (w64 (((y18.Instrs).length : Int) - 1))) rfl rfl (does_assign rfl) ?_
          refine okL_nil ?_
          refine okX_next ?_
          obtain ⟨z31, h33, hz32⟩ := bs h
          refine okC_meetE (X := ((List Int) × (List Int))) (fun x => z31 = x) (fun x : ((List Int) × (List Int)) => [(4, (tL 1 ls_SU r5.2)), (5, (Ty.own v9)), (26, (tL 5 Block.ty a0.Blocks)), (27, (tI ((a0.Blocks).length : Int))), (28, (tI s15.1))]) (fun x : ((List Int) × (List Int)) => rowL v26 137 1 lU x.1 :: Item.blk g20 43 [(tL 6 VInstr.ty y18.Instrs), (tI y18.End), (tI y18.Reg), (tI y18.Target), (tI y18.Else)] :: rowL v9 137 1 lU x.2 :: Item.blk g1 27 [(tI a0.Params), (tI a0.Regs), (tL 5 Block.ty a0.Blocks)] :: L) ?_ ?_
          · refine okC_block ?_
            refine okC_loop (X := (Int × (List Int) × (List Int))) (fun k x => liveness_AcrossCalls_l2 K y18 k x = some z31) (fun x : (Int × (List Int) × (List Int)) => [(4, (tL 1 ls_SU r5.2)), (5, (Ty.own v9)), (7, (pAt g20 0)), (8, (Ty.own v26)), (9, (tI x.1)), (26, (tL 5 Block.ty a0.Blocks)), (27, (tI ((a0.Blocks).length : Int))), (28, (tI s15.1))]) (fun x : (Int × (List Int) × (List Int)) => rowL v26 137 1 lU x.2.1 :: Item.blk g20 43 [(tL 6 VInstr.ty y18.Instrs), (tI y18.End), (tI y18.Reg), (tI y18.Target), (tI y18.Else)] :: rowL v9 137 1 lU x.2.2 :: Item.blk g1 27 [(tI a0.Params), (tI a0.Regs), (tL 5 Block.ty a0.Blocks)] :: L) K ((w64 (((y18.Instrs).length : Int) - 1)), r27, s15.2) h33 (cc rfl (cc rfl (cc rfl (cc rfl (cc rfl (cc rfl (cc rfl (cc rfl cn)))))))) rfl (fun k s34 hI => ?_)
            change OkC _ _ _ [(4, (tL 1 ls_SU r5.2)), (5, (Ty.own v9)), (7, (pAt g20 0)), (8, (Ty.own v26)), (9, (tI s34.1)), (26, (tL 5 Block.ty a0.Blocks)), (27, (tI ((a0.Blocks).length : Int))), (28, (tI s15.1))] (rowL v26 137 1 lU s34.2.1 :: Item.blk g20 43 [(tL 6 VInstr.ty y18.Instrs), (tI y18.End), (tI y18.Reg), (tI y18.Target), (tI y18.Else)] :: rowL v9 137 1 lU s34.2.2 :: Item.blk g1 27 [(tI a0.Params), (tI a0.Regs), (tL 5 Block.ty a0.Blocks)] :: L)
            cases k with
            | zero => exact (nz hI).elim
            | succ k =>
              have h : liveness_AcrossCalls_l2 K y18 (k + 1) s34 = some z31 := hI
              rw [liveness_AcrossCalls_l2.eq_2] at h
              refine okC_seq ?_
              refine okC_seq ?_
              refine okC_region ?_
              refine okL_step 46 (tI s34.1) rfl rfl (does_move rfl) ?_
              refine okL_step 47 (tB (decide (s34.1 ≥ 0))) rfl rfl (does_geq rfl rfl) ?_
              refine okL_nil ?_
              refine okX_next ?_
              refine okC_cond (b := (decide (s34.1 ≥ 0))) rfl (fun hb36 => ?_) (fun hb36 => ?_)
              · replace h := ct hb36 h
                refine okC_skip ?_
                refine okX_next ?_
                refine okC_seq ?_
                refine okC_block ?_
                refine okC_seq ?_
                refine okC_region ?_
                refine okL_step 50 (pAt g20 0) rfl rfl (does_fieldAddrP 0 Tryd.underlying43 rfl Tryd.sizeOf41 rfl rfl) ?_
                refine okL_step 51 (tL 6 VInstr.ty y18.Instrs) rfl rfl (does_loadB1 Tryd.isAgg41 rfl 1 rfl rfl) ?_
                refine okL_step 52 (tI s34.1) rfl rfl (does_move rfl) ?_
                obtain ⟨y37, hi38, h⟩ := bs h
                refine okL_step 53 (Ty.ptr [(tI y37.Instr.Op), (tI y37.Instr.A), (tI y37.Instr.B), (tI y37.Instr.C), (tI y37.Instr.N), (tL 1 lI y37.Args)]) rfl rfl (does_index (sz := 6) (f := VInstr.ty) (l := y18.Instrs) (n := s34.1) y37 Tryd.underlying41 Tryd.sizeOf48 hi38 rfl rfl) ?_
                refine okL_step 54 (Ty.agg [(tI y37.Instr.Op), (tI y37.Instr.A), (tI y37.Instr.B), (tI y37.Instr.C), (tI y37.Instr.N), (tL 1 lI y37.Args)]) rfl rfl (does_loadA [(tI y37.Instr.Op), (tI y37.Instr.A), (tI y37.Instr.B), (tI y37.Instr.C), (tI y37.Instr.N), (tL 1 lI y37.Args)] Tryd.isAgg48 Tryd.sizeOf48 rfl rfl rfl) ?_
                refine okL_stepO 10 rfl rfl (doesO_alloc [(tI 0), (tI 0), (tI 0), (tI 0), (tI 0), (Ty.val (.slice none 0 0))] Tryd.zeroValue48 (part_of (sub_agg [(.int .i64 0), (.int .i64 0), (.int .i64 0), (.int .i64 0), (.int .i64 0), (.slice none 0 0)] rfl) (part_agg _)) (fun g39 => ?_))
                refine okL_stepU rfl (doesO_storeB (ps := [(tI y37.Instr.Op), (tI y37.Instr.A), (tI y37.Instr.B), (tI y37.Instr.C), (tI y37.Instr.N), (tL 1 lI y37.Args)]) 0 [(tI y37.Instr.Op), (tI y37.Instr.A), (tI y37.Instr.B), (tI y37.Instr.C), (tI y37.Instr.N), (tL 1 lI y37.Args)] (Item.blk g39 48 [(tI y37.Instr.Op), (tI y37.Instr.A), (tI y37.Instr.B), (tI y37.Instr.C), (tI y37.Instr.N), (tL 1 lI y37.Args)] :: rowL v26 137 1 lU s34.2.1 :: Item.blk g20 43 [(tL 6 VInstr.ty y18.Instrs), (tI y18.End), (tI y18.Reg), (tI y18.Target), (tI y18.Else)] :: rowL v9 137 1 lU s34.2.2 :: Item.blk g1 27 [(tI a0.Params), (tI a0.Regs), (tL 5 Block.ty a0.Blocks)] :: L) rfl rfl (part_agg _) Tryd.sizeOf48 rfl rfl rfl rfl ?_)
                refine okL_nil ?_
                refine okX_next ?_
                obtain ⟨z42, h44, hz43⟩ := bs h
                refine okC_meet (X := (List Int)) (fun x => z42 = x) (fun x : (List Int) => [(4, (tL 1 ls_SU r5.2)), (5, (Ty.own v9)), (7, (pAt g20 0)), (8, (Ty.own v26)), (9, (tI s34.1)), (10, (pAt g39 0)), (26, (tL 5 Block.ty a0.Blocks)), (27, (tI ((a0.Blocks).length : Int))), (28, (tI s15.1))]) (fun x : (List Int) => Item.blk g39 48 [(tI y37.Instr.Op), (tI y37.Instr.A), (tI y37.Instr.B), (tI y37.Instr.C), (tI y37.Instr.N), (tL 1 lI y37.Args)] :: rowL v26 137 1 lU s34.2.1 :: Item.blk g20 43 [(tL 6 VInstr.ty y18.Instrs), (tI y18.End), (tI y18.Reg), (tI y18.Target), (tI y18.Else)] :: rowL v9 137 1 lU x :: Item.blk g1 27 [(tI a0.Params), (tI a0.Regs), (tL 5 Block.ty a0.Blocks)] :: L) ?_ ?_
                · refine okC_seq ?_
                  refine okC_region ?_
                  refine okL_step 55 (pAt g39 0) rfl rfl (does_fieldAddrP 0 Tryd.underlying48 rfl Tryd.sizeOf46 rfl rfl) ?_
                  refine okL_step 56 (pAt g39 0) rfl rfl (does_fieldAddrP 0 Tryd.underlying46 rfl Tryd.sizeOf3 rfl rfl) ?_
                  refine okL_step 57 (tI y37.Instr.Op) rfl rfl (does_loadB1 Tryd.isAgg3 rfl 0 rfl rfl) ?_
                  refine okL_step 58 (tB (y37.Instr.Op == 6)) rfl rfl (does_eql rfl rfl) ?_
                  refine okL_nil ?_
                  refine okX_next ?_
                  refine okC_cond (b := (y37.Instr.Op == 6)) rfl (fun hb45 => ?_) (fun hb45 => ?_)
                  · replace h44 := ct hb45 h44
                    refine okC_seq ?_
                    refine okC_region ?_
                    refine okL_stepO 59 rfl rfl (doesO_build0 (f := lU) el93 (fun v46 => ?_))
                    refine okL_step 60 (Ty.own v26) rfl rfl (does_move rfl) ?_
                    obtain ⟨l47, ha48, h44⟩ := bs h44
                    refine okL_stepO 61 rfl rfl (doesO_appendZ (f := lU) (l := ([] : List Int)) (m := s34.2.1) el93 (Item.blk g39 48 [(tI y37.Instr.Op), (tI y37.Instr.A), (tI y37.Instr.B), (tI y37.Instr.C), (tI y37.Instr.N), (tL 1 lI y37.Args)] :: rowL v26 137 1 lU s34.2.1 :: Item.blk g20 43 [(tL 6 VInstr.ty y18.Instrs), (tI y18.End), (tI y18.Reg), (tI y18.Target), (tI y18.Else)] :: rowL v9 137 1 lU s34.2.2 :: Item.blk g1 27 [(tI a0.Params), (tI a0.Regs), (tL 5 Block.ty a0.Blocks)] :: L) 1 l47 ha48 exU rfl (pm 0 rfl (pr _)) rfl rfl (fun v49 => ?_))
                    refine okL_step 11 (Ty.own v49) rfl rfl (does_assign rfl) ?_
                    refine okL_nil ?_
                    refine okX_next ?_
                    refine okC_seq ?_
                    refine okC_region ?_
                    refine okL_step 62 (Ty.own v49) rfl rfl (does_move rfl) ?_
                    refine okL_step 63 (pAt g39 0) rfl rfl (does_fieldAddrP 0 Tryd.underlying48 rfl Tryd.sizeOf46 rfl rfl) ?_
                    refine okL_step 64 (pAt g39 1) rfl rfl (does_fieldAddrP 1 Tryd.underlying46 rfl Tryd.sizeOf3 rfl rfl) ?_
                    refine okL_step 65 (tI y37.Instr.A) rfl rfl (does_loadB1 Tryd.isAgg3 rfl 1 rfl rfl) ?_
                    obtain ⟨r50, hc51, h44⟩ := bs h44
                    refine okL_stepO 66 rfl rfl (doesO_call0 (Item.blk g39 48 [(tI y37.Instr.Op), (tI y37.Instr.A), (tI y37.Instr.B), (tI y37.Instr.C), (tI y37.Instr.N), (tL 1 lI y37.Args)] :: rowL v26 137 1 lU s34.2.1 :: Item.blk g20 43 [(tL 6 VInstr.ty y18.Instrs), (tI y18.End), (tI y18.Reg), (tI y18.Target), (tI y18.Else)] :: rowL v9 137 1 lU s34.2.2 :: Item.blk g1 27 [(tI a0.Params), (tI a0.Regs), (tL 5 Block.ty a0.Blocks)] :: L) (c_liveness_set_remove l47 y37.Instr.A v49 r50 hc51) rfl Tryd.call71 rfl (pm 0 rfl (pr _)) (fun _ => ?_))
                    refine okL_nil ?_
                    refine okX_next ?_
                    refine okC_seq ?_
                    refine okC_seq ?_
                    refine okC_region ?_
                    refine okL_step 67 (pAt g39 5) rfl rfl (does_fieldAddrP 5 Tryd.underlying48 rfl Tryd.sizeOf31 rfl rfl) ?_
                    refine okL_step 68 (tL 1 lI y37.Args) rfl rfl (does_loadB1 Tryd.isAgg31 rfl 1 rfl rfl) ?_
                    refine okL_step 69 (tI ((y37.Args).length : Int)) rfl rfl (does_len (sz := 1) (f := lI) (l := y37.Args) rfl Tryd.underlying31 rfl) ?_
                    refine okL_step 70 (tI 0) rfl rfl (does_move rfl) ?_
                    refine okL_nil ?_
                    refine okX_next ?_
                    obtain ⟨z54, h56, hz55⟩ := bs h44
                    refine okC_meetE (X := (List Int)) (fun x => z54 = x) (fun x : (List Int) => [(4, (tL 1 ls_SU r5.2)), (5, (Ty.own v9)), (7, (pAt g20 0)), (8, (Ty.own v26)), (9, (tI s34.1)), (10, (pAt g39 0)), (11, (Ty.own v49)), (26, (tL 5 Block.ty a0.Blocks)), (27, (tI ((a0.Blocks).length : Int))), (28, (tI s15.1))]) (fun x : (List Int) => rowL v49 137 1 lU x :: Item.blk g39 48 [(tI y37.Instr.Op), (tI y37.Instr.A), (tI y37.Instr.B), (tI y37.Instr.C), (tI y37.Instr.N), (tL 1 lI y37.Args)] :: rowL v26 137 1 lU s34.2.1 :: Item.blk g20 43 [(tL 6 VInstr.ty y18.Instrs), (tI y18.End), (tI y18.Reg), (tI y18.Target), (tI y18.Else)] :: rowL v9 137 1 lU s34.2.2 :: Item.blk g1 27 [(tI a0.Params), (tI a0.Regs), (tL 5 Block.ty a0.Blocks)] :: L) ?_ ?_
                    · refine okC_block ?_
                      refine okC_loop (X := (Int × (List Int))) (fun k x => liveness_AcrossCalls_l3 K y37 k x = some z54) (fun x : (Int × (List Int)) => [(4, (tL 1 ls_SU r5.2)), (5, (Ty.own v9)), (7, (pAt g20 0)), (8, (Ty.own v26)), (9, (tI s34.1)), (10, (pAt g39 0)), (11, (Ty.own v49)), (26, (tL 5 Block.ty a0.Blocks)), (27, (tI ((a0.Blocks).length : Int))), (28, (tI s15.1)), (68, (tL 1 lI y37.Args)), (69, (tI ((y37.Args).length : Int))), (70, (tI x.1))]) (fun x : (Int × (List Int)) => rowL v49 137 1 lU x.2 :: Item.blk g39 48 [(tI y37.Instr.Op), (tI y37.Instr.A), (tI y37.Instr.B), (tI y37.Instr.C), (tI y37.Instr.N), (tL 1 lI y37.Args)] :: rowL v26 137 1 lU s34.2.1 :: Item.blk g20 43 [(tL 6 VInstr.ty y18.Instrs), (tI y18.End), (tI y18.Reg), (tI y18.Target), (tI y18.Else)] :: rowL v9 137 1 lU s34.2.2 :: Item.blk g1 27 [(tI a0.Params), (tI a0.Regs), (tL 5 Block.ty a0.Blocks)] :: L) K (0, r50) h56 (cc rfl (cc rfl (cc rfl (cc rfl (cc rfl (cc rfl (cc rfl (cc rfl (cc rfl (cc rfl (cc rfl (cc rfl (cc rfl cn))))))))))))) rfl (fun k s57 hI => ?_)
                      change OkC _ _ _ [(4, (tL 1 ls_SU r5.2)), (5, (Ty.own v9)), (7, (pAt g20 0)), (8, (Ty.own v26)), (9, (tI s34.1)), (10, (pAt g39 0)), (11, (Ty.own v49)), (26, (tL 5 Block.ty a0.Blocks)), (27, (tI ((a0.Blocks).length : Int))), (28, (tI s15.1)), (68, (tL 1 lI y37.Args)), (69, (tI ((y37.Args).length : Int))), (70, (tI s57.1))] (rowL v49 137 1 lU s57.2 :: Item.blk g39 48 [(tI y37.Instr.Op), (tI y37.Instr.A), (tI y37.Instr.B), (tI y37.Instr.C), (tI y37.Instr.N), (tL 1 lI y37.Args)] :: rowL v26 137 1 lU s34.2.1 :: Item.blk g20 43 [(tL 6 VInstr.ty y18.Instrs), (tI y18.End), (tI y18.Reg), (tI y18.Target), (tI y18.Else)] :: rowL v9 137 1 lU s34.2.2 :: Item.blk g1 27 [(tI a0.Params), (tI a0.Regs), (tL 5 Block.ty a0.Blocks)] :: L)
                      cases k with
                      | zero => exact (nz hI).elim
                      | succ k =>
                        have h : liveness_AcrossCalls_l3 K y37 (k + 1) s57 = some z54 := hI
                        rw [liveness_AcrossCalls_l3.eq_2] at h
                        refine okC_seq ?_
                        refine okC_region ?_
                        refine okL_step 71 (tB (decide (s57.1 < ((y37.Args).length : Int)))) rfl rfl (does_lss rfl rfl) ?_
                        refine okL_nil ?_
                        refine okX_next ?_
                        refine okC_seq ?_
                        refine okC_cond (b := (decide (s57.1 < ((y37.Args).length : Int)))) rfl (fun hb59 => ?_) (fun hb59 => ?_)
                        · replace h := ct hb59 h
                          refine okC_skip ?_
                          refine okX_next ?_
                          refine okC_seq ?_
                          refine okC_block ?_
                          refine okC_seq ?_
                          refine okC_region ?_
                          obtain ⟨y60, hi61, h⟩ := bs h
                          refine okL_step 72 (Ty.ptr [(tI y60)]) rfl rfl (does_index (sz := 1) (f := lI) (l := y37.Args) (n := s57.1) y60 Tryd.underlying31 Tryd.sizeOf3 hi61 rfl rfl) ?_
                          refine okL_step 73 (tI y60) rfl rfl (does_load1 Tryd.isAgg3 rfl) ?_
                          refine okL_step 13 (tI y60) rfl rfl (does_assign rfl) ?_
                          refine okL_nil ?_
                          refine okX_next ?_
                          refine okC_region ?_
                          refine okL_step 74 (Ty.own v49) rfl rfl (does_move rfl) ?_
                          refine okL_step 75 (tI y60) rfl rfl (does_move rfl) ?_
                          obtain ⟨r62, hc63, h⟩ := bs h
                          refine okL_stepO 76 rfl rfl (doesO_call0 (Item.blk g39 48 [(tI y37.Instr.Op), (tI y37.Instr.A), (tI y37.Instr.B), (tI y37.Instr.C), (tI y37.Instr.N), (tL 1 lI y37.Args)] :: rowL v26 137 1 lU s34.2.1 :: Item.blk g20 43 [(tL 6 VInstr.ty y18.Instrs), (tI y18.End), (tI y18.Reg), (tI y18.Target), (tI y18.Else)] :: rowL v9 137 1 lU s34.2.2 :: Item.blk g1 27 [(tI a0.Params), (tI a0.Regs), (tL 5 Block.ty a0.Blocks)] :: L) (c_liveness_set_add s57.2 y60 v49 r62 hc63) rfl Tryd.call72 rfl (pm 0 rfl (pr _)) (fun _ => ?_))
                          refine okL_nil ?_
                          refine okX_block_normal ?_
                          refine okX_next ?_
                          refine okC_region ?_
                          refine okL_step 77 (tI (w64 (s57.1 + 1))) rfl rfl (does_add rfl rfl) ?_
                          refine okL_step 70 (tI (w64 (s57.1 + 1))) rfl rfl (does_move rfl) ?_
                          refine okL_nil ?_
                          exact okX_again k (Nat.lt_succ_self k) ((w64 (s57.1 + 1)), r62) h (cc rfl (cc rfl (cc rfl (cc rfl (cc rfl (cc rfl (cc rfl (cc rfl (cc rfl (cc rfl (cc rfl (cc rfl (cc rfl cn))))))))))))) rfl
                        · replace h := cf hb59 h
                          refine okC_exit ?_
                          refine okX_then_exit ?_
                          refine okX_again_exit ?_
                          refine okX_block_hit ?_
                          exact okX_meet (I := _) s57.2 (smh h) (cc rfl (cc rfl (cc rfl (cc rfl (cc rfl (cc rfl (cc rfl (cc rfl (cc rfl (cc rfl cn)))))))))) rfl
                    · intro s52 hx
                      change OkX _ _ _ [(4, (tL 1 ls_SU r5.2)), (5, (Ty.own v9)), (7, (pAt g20 0)), (8, (Ty.own v26)), (9, (tI s34.1)), (10, (pAt g39 0)), (11, (Ty.own v49)), (26, (tL 5 Block.ty a0.Blocks)), (27, (tI ((a0.Blocks).length : Int))), (28, (tI s15.1))] (rowL v49 137 1 lU s52 :: Item.blk g39 48 [(tI y37.Instr.Op), (tI y37.Instr.A), (tI y37.Instr.B), (tI y37.Instr.C), (tI y37.Instr.N), (tL 1 lI y37.Args)] :: rowL v26 137 1 lU s34.2.1 :: Item.blk g20 43 [(tL 6 VInstr.ty y18.Instrs), (tI y18.End), (tI y18.Reg), (tI y18.Target), (tI y18.Else)] :: rowL v9 137 1 lU s34.2.2 :: Item.blk g1 27 [(tI a0.Params), (tI a0.Regs), (tL 5 Block.ty a0.Blocks)] :: L)
                      obtain rfl : s52 = z54 := hx.symm
                      replace h44 := hz55
                      refine okX_next ?_
                      refine okC_region ?_
                      refine okL_step 78 (Ty.own v9) rfl rfl (does_move rfl) ?_
                      refine okL_step 79 (Ty.own v49) rfl rfl (does_move rfl) ?_
                      obtain ⟨r64, hc65, h44⟩ := bs h44
                      refine okL_stepO 80 rfl rfl (doesO_callZ (rowL v49 137 1 lU s52 :: Item.blk g39 48 [(tI y37.Instr.Op), (tI y37.Instr.A), (tI y37.Instr.B), (tI y37.Instr.C), (tI y37.Instr.N), (tL 1 lI y37.Args)] :: rowL v26 137 1 lU s34.2.1 :: Item.blk g20 43 [(tL 6 VInstr.ty y18.Instrs), (tI y18.End), (tI y18.Reg), (tI y18.Target), (tI y18.Else)] :: Item.blk g1 27 [(tI a0.Params), (tI a0.Regs), (tL 5 Block.ty a0.Blocks)] :: L) (c_liveness_set_union K s34.2.2 s52 v9 r64 hc65) (fun _ => (ex_val _)) (fun _ => (.cons (ex_row exU) ExIts.nil)) rfl Tryd.call73 (.cons rfl (sub_refl _) (.lend 0 rfl rfl ArgLend.nil)) (pm 4 rfl (pr _)) (fun _ => ?_))
                      refine okL_nil ?_
                      refine okX_items [rowL v49 137 1 lU s52] (Item.blk g39 48 [(tI y37.Instr.Op), (tI y37.Instr.A), (tI y37.Instr.B), (tI y37.Instr.C), (tI y37.Instr.N), (tL 1 lI y37.Args)] :: rowL v26 137 1 lU s34.2.1 :: Item.blk g20 43 [(tL 6 VInstr.ty y18.Instrs), (tI y18.End), (tI y18.Reg), (tI y18.Target), (tI y18.Else)] :: rowL v9 137 1 lU r64.2 :: Item.blk g1 27 [(tI a0.Params), (tI a0.Regs), (tL 5 Block.ty a0.Blocks)] :: L) (pm 1 rfl (pm 1 rfl (pm 1 rfl (pm 1 rfl (pm 0 rfl (pm 0 rfl (pr _))))))) ?_
                      exact okX_meet (I := _) r64.2 (smh h44) (cc rfl (cc rfl (cc rfl (cc rfl (cc rfl (cc rfl (cc rfl (cc rfl (cc rfl cn))))))))) rfl
                  · replace h44 := cf hb45 h44
                    refine okC_skip ?_
                    exact okX_meet (I := _) s34.2.2 (smh h44) (cc rfl (cc rfl (cc rfl (cc rfl (cc rfl (cc rfl (cc rfl (cc rfl (cc rfl cn))))))))) rfl
                · intro s40 hx
                  change OkC _ _ _ [(4, (tL 1 ls_SU r5.2)), (5, (Ty.own v9)), (7, (pAt g20 0)), (8, (Ty.own v26)), (9, (tI s34.1)), (10, (pAt g39 0)), (26, (tL 5 Block.ty a0.Blocks)), (27, (tI ((a0.Blocks).length : Int))), (28, (tI s15.1))] (Item.blk g39 48 [(tI y37.Instr.Op), (tI y37.Instr.A), (tI y37.Instr.B), (tI y37.Instr.C), (tI y37.Instr.N), (tL 1 lI y37.Args)] :: rowL v26 137 1 lU s34.2.1 :: Item.blk g20 43 [(tL 6 VInstr.ty y18.Instrs), (tI y18.End), (tI y18.Reg), (tI y18.Target), (tI y18.Else)] :: rowL v9 137 1 lU s40 :: Item.blk g1 27 [(tI a0.Params), (tI a0.Regs), (tL 5 Block.ty a0.Blocks)] :: L)
                  obtain rfl : s40 = z42 := hx.symm
                  replace h := hz43
                  refine okC_region ?_
                  refine okL_step 81 (Ty.own v26) rfl rfl (does_move rfl) ?_
                  refine okL_step 82 (Ty.agg [(tI y37.Instr.Op), (tI y37.Instr.A), (tI y37.Instr.B), (tI y37.Instr.C), (tI y37.Instr.N), (tL 1 lI y37.Args)]) rfl rfl (does_loadBA [(tI y37.Instr.Op), (tI y37.Instr.A), (tI y37.Instr.B), (tI y37.Instr.C), (tI y37.Instr.N), (tL 1 lI y37.Args)] Tryd.isAgg48 Tryd.sizeOf48 rfl 0 rfl rfl rfl) ?_
                  obtain ⟨r66, hc67, h⟩ := bs h
                  refine okL_stepO 83 rfl rfl (doesO_call0 (Item.blk g39 48 [(tI y37.Instr.Op), (tI y37.Instr.A), (tI y37.Instr.B), (tI y37.Instr.C), (tI y37.Instr.N), (tL 1 lI y37.Args)] :: Item.blk g20 43 [(tL 6 VInstr.ty y18.Instrs), (tI y18.End), (tI y18.Reg), (tI y18.Target), (tI y18.Else)] :: rowL v9 137 1 lU s40 :: Item.blk g1 27 [(tI a0.Params), (tI a0.Regs), (tL 5 Block.ty a0.Blocks)] :: L) (c_liveness_transfer K s34.2.1 y37 v26 r66 hc67) rfl Tryd.call68 rfl (pm 1 rfl (pr _)) (fun _ => ?_))
                  refine okL_nil ?_
                  refine okX_block_normal ?_
                  refine okX_next ?_
                  refine okC_region ?_
                  refine okL_step 48 (tI s34.1) rfl rfl (does_move rfl) ?_
                  refine okL_step 49 (tI (w64 (s34.1 - 1))) rfl rfl (does_sub rfl rfl) ?_
                  refine okL_step 9 (tI (w64 (s34.1 - 1))) rfl rfl (does_assign rfl) ?_
                  refine okL_nil ?_
                  refine okX_items [Item.blk g39 48 [(tI y37.Instr.Op), (tI y37.Instr.A), (tI y37.Instr.B), (tI y37.Instr.C), (tI y37.Instr.N), (tL 1 lI y37.Args)]] (rowL v26 137 1 lU r66 :: Item.blk g20 43 [(tL 6 VInstr.ty y18.Instrs), (tI y18.End), (tI y18.Reg), (tI y18.Target), (tI y18.Else)] :: rowL v9 137 1 lU s40 :: Item.blk g1 27 [(tI a0.Params), (tI a0.Regs), (tL 5 Block.ty a0.Blocks)] :: L) (pm 1 rfl (pm 0 rfl (pm 0 rfl (pm 0 rfl (pm 0 rfl (pr _)))))) ?_
                  exact okX_again k (Nat.lt_succ_self k) ((w64 (s34.1 - 1)), r66, s40) h (cc rfl (cc rfl (cc rfl (cc rfl (cc rfl (cc rfl (cc rfl (cc rfl cn)))))))) rfl
              · replace h := cf hb36 h
                refine okC_exit ?_
                refine okX_then_exit ?_
                refine okX_again_exit ?_
                refine okX_block_hit ?_
                exact okX_meet (I := _) (s34.2.1, s34.2.2) (smh h) (cc rfl (cc rfl (cc rfl (cc rfl (cc rfl cn))))) rfl
          · intro s29 hx
            change OkX _ _ _ [(4, (tL 1 ls_SU r5.2)), (5, (Ty.own v9)), (26, (tL 5 Block.ty a0.Blocks)), (27, (tI ((a0.Blocks).length : Int))), (28, (tI s15.1))] (rowL v26 137 1 lU s29.1 :: Item.blk g20 43 [(tL 6 VInstr.ty y18.Instrs), (tI y18.End), (tI y18.Reg), (tI y18.Target), (tI y18.Else)] :: rowL v9 137 1 lU s29.2 :: Item.blk g1 27 [(tI a0.Params), (tI a0.Regs), (tL 5 Block.ty a0.Blocks)] :: L)
            obtain rfl : s29 = z31 := hx.symm
            replace h := hz32
            refine okX_block_normal ?_
            refine okX_next ?_
            refine okC_region ?_
            refine okL_step 84 (tI (w64 (s15.1 + 1))) rfl rfl (does_add rfl rfl) ?_
            refine okL_step 28 (tI (w64 (s15.1 + 1))) rfl rfl (does_move rfl) ?_
            refine okL_nil ?_
            refine okX_items [rowL v26 137 1 lU s29.1, Item.blk g20 43 [(tL 6 VInstr.ty y18.Instrs), (tI y18.End), (tI y18.Reg), (tI y18.Target), (tI y18.Else)]] (rowL v9 137 1 lU s29.2 :: Item.blk g1 27 [(tI a0.Params), (tI a0.Regs), (tL 5 Block.ty a0.Blocks)] :: L) (pm 0 rfl (pm 0 rfl (pm 0 rfl (pm 0 rfl (pr _))))) ?_
            exact okX_again k (Nat.lt_succ_self k) ((w64 (s15.1 + 1)), s29.2) h (cc rfl (cc rfl (cc rfl (cc rfl (cc rfl cn))))) rfl
        · replace h := cf hb17 h
          refine okC_exit ?_
          refine okX_then_exit ?_
          refine okX_again_exit ?_
          refine okX_block_hit ?_
          exact okX_meet (I := _) s15.2 (smh h) (cc rfl cn) rfl
    · intro s10 hx
      change OkX _ _ _ [(5, (Ty.own v9))] (rowL v9 137 1 lU s10 :: Item.blk g1 27 [(tI a0.Params), (tI a0.Regs), (tL 5 Block.ty a0.Blocks)] :: L)
      obtain rfl : s10 = z12 := hx.symm
      replace h := hz13
      refine okX_next ?_
      refine okC_seq ?_
      refine okC_region ?_
      refine okL_step 85 (Ty.own v9) rfl rfl (does_move rfl) ?_
      refine okL_publish 0 [5, 85] (Item.blk g1 27 [(tI a0.Params), (tI a0.Regs), (tL 5 Block.ty a0.Blocks)] :: L) rfl (ac rfl (ac rfl an)) rfl ?_
      obtain ⟨r68, hc69, h⟩ := bs h
      refine okL_step 86 (tL 1 lI r68) rfl rfl (does_call0 (d_liveness_set_list K s10 r68 hc69) rfl Tryd.call65 rfl) ?_
      refine okL_step 2 (tL 1 lI r68) rfl rfl (does_assign rfl) ?_
      refine okL_nil ?_
      refine okX_next ?_
      refine okC_ret ?_
      obtain rfl := (smh h).symm
      refine okX_items [Item.blk g1 27 [(tI a0.Params), (tI a0.Regs), (tL 5 Block.ty a0.Blocks)]] (L) (pm 0 rfl (pr _)) ?_
      exact okX_ret1 () Tryd.results27 rfl rfl

end Go.Proofs.YtocfnpnnbmicmaaDoor.Tc
