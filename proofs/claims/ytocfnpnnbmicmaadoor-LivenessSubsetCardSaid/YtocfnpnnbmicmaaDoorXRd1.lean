/- Written by gen.py: for each Go function a pure Lean function, and that the Go code comes to what it says. -/
import Derived.Test.YtocfnpnnbmicmaaDoorTypes
set_option linter.unusedVariables false
set_option maxRecDepth 8000
set_option maxHeartbeats 4000000
namespace Go.Proofs.YtocfnpnnbmicmaaDoor.Tc
open Go Go.RowKit

def keep_Pick  (a0 : Int) (a1 : Int) : Option Int :=
  (guardO (a1 != 0) (Option.bind (cnd (decide ((Int.tmod a0 a1) < 0)) (some (w64 ((Int.tmod a0 a1) + a1))) (some (Int.tmod a0 a1))) (fun s2 => (some s2))))

theorem c_keep_Pick  (a0 : Int) (a1 : Int) (r : Int) (h : keep_Pick  a0 a1 = some r) : CallP Tryd.prog glob 29 [(tI a0), (tI a1)] (tI r) := by
  refine call_of_code Tryd.func29 rfl Tryd.ntmps29 rfl (fun L w => ?_)
  change OkC _ _ _ [(0, (tI a0)), (1, (tI a1))] (L)
  unfold keep_Pick at h
  refine okC_seq ?_
  refine okC_region ?_
  refine okL_step 4 (tI 0) rfl rfl (does_assign rfl) ?_
  refine okL_nil ?_
  refine okX_next ?_
  refine okC_seq ?_
  refine okC_region ?_
  refine okL_step 5 (tI a0) rfl rfl (does_move rfl) ?_
  refine okL_step 6 (tI a1) rfl rfl (does_move rfl) ?_
  obtain ⟨hg1, h⟩ := gs h
  refine okL_step 7 (tI (Int.tmod a0 a1)) rfl rfl (does_rem (ne0 hg1) rfl rfl) ?_
  refine okL_step 0 (tI (Int.tmod a0 a1)) rfl rfl (does_assign rfl) ?_
  refine okL_nil ?_
  refine okX_next ?_
  obtain ⟨z4, h6, hz5⟩ := bs h
  refine okC_meet (X := Int) (fun x => z4 = x) (fun x : Int => [(0, (tI x))]) (fun x : Int => L) ?_ ?_
  · refine okC_seq ?_
    refine okC_region ?_
    refine okL_step 8 (tI (Int.tmod a0 a1)) rfl rfl (does_move rfl) ?_
    refine okL_step 9 (tB (decide ((Int.tmod a0 a1) < 0))) rfl rfl (does_lss rfl rfl) ?_
    refine okL_nil ?_
    refine okX_next ?_
    refine okC_cond (b := (decide ((Int.tmod a0 a1) < 0))) rfl (fun hb7 => ?_) (fun hb7 => ?_)
    · replace h6 := ct hb7 h6
      refine okC_region ?_
      refine okL_step 10 (tI (Int.tmod a0 a1)) rfl rfl (does_move rfl) ?_
      refine okL_step 11 (tI a1) rfl rfl (does_move rfl) ?_
      refine okL_step 12 (tI (w64 ((Int.tmod a0 a1) + a1))) rfl rfl (does_add rfl rfl) ?_
      refine okL_step 0 (tI (w64 ((Int.tmod a0 a1) + a1))) rfl rfl (does_assign rfl) ?_
      refine okL_nil ?_
      exact okX_meet (I := _) (w64 ((Int.tmod a0 a1) + a1)) (smh h6) (cc rfl cn) rfl
    · replace h6 := cf hb7 h6
      refine okC_skip ?_
      exact okX_meet (I := _) (Int.tmod a0 a1) (smh h6) (cc rfl cn) rfl
  · intro s2 hx
    change OkC _ _ _ [(0, (tI s2))] (L)
    obtain rfl : s2 = z4 := hx.symm
    replace h := hz5
    refine okC_seq ?_
    refine okC_region ?_
    refine okL_step 13 (tI s2) rfl rfl (does_move rfl) ?_
    refine okL_step 4 (tI s2) rfl rfl (does_assign rfl) ?_
    refine okL_nil ?_
    refine okX_next ?_
    refine okC_ret ?_
    obtain rfl := (smh h).symm
    exact okX_ret1 () Tryd.results29 rfl rfl

def ref32_Contains_l1 (K : Nat) (a0 : (List Int)) (a1 : Int) : Nat → Int → Option (Unit ⊕ Bool)
  | 0, _ => none
  | k + 1, s6 => (cnd (decide (s6 < ((a0).length : Int))) (Option.bind (idx a0 s6) (fun y9 => (cnd (y9 == a1) (out (some true)) (ref32_Contains_l1 K a0 a1 k (w64 (s6 + 1)))))) (inn ()))

def ref32_Contains (K : Nat) (a0 : (List Int)) (a1 : Int) : Option Bool :=
  (sq (ref32_Contains_l1 K a0 a1 K 0) (fun s1 => (some false)))

theorem c_ref32_Contains (K : Nat) (a0 : (List Int)) (a1 : Int) (r : Bool) (h : ref32_Contains K a0 a1 = some r) : CallP Tryd.prog glob 40 [(tL 1 lI a0), (tI a1)] (tB r) := by
  refine call_of_code Tryd.func40 rfl Tryd.ntmps40 rfl (fun L w => ?_)
  change OkC _ _ _ [(0, (tL 1 lI a0)), (1, (tI a1))] (L)
  unfold ref32_Contains at h
  refine okC_seq ?_
  refine okC_region ?_
  refine okL_step 4 (tB false) rfl rfl (does_assign rfl) ?_
  refine okL_nil ?_
  refine okX_next ?_
  refine okC_seq ?_
  refine okC_seq ?_
  refine okC_region ?_
  refine okL_step 5 (tI 0) rfl rfl (does_assign rfl) ?_
  refine okL_nil ?_
  refine okX_next ?_
  obtain ⟨z3, h5, hz4⟩ := sqs h
  refine okC_meetE (X := Unit) (fun x => z3 = .inl x) (fun x : Unit => []) (fun x : Unit => L) ?_ ?_
  · refine okC_block ?_
    refine okC_loop (X := Int) (fun k x => ref32_Contains_l1 K a0 a1 k x = some z3) (fun x : Int => [(0, (tL 1 lI a0)), (1, (tI a1)), (5, (tI x))]) (fun x : Int => L) K 0 h5 (cc rfl (cc rfl (cc rfl cn))) rfl (fun k s6 hI => ?_)
    change OkC _ _ _ [(0, (tL 1 lI a0)), (1, (tI a1)), (5, (tI s6))] (L)
    cases k with
    | zero => exact (nz hI).elim
    | succ k =>
      have h : ref32_Contains_l1 K a0 a1 (k + 1) s6 = some z3 := hI
      rw [ref32_Contains_l1.eq_2] at h
      refine okC_seq ?_
      refine okC_seq ?_
      refine okC_region ?_
      refine okL_step 6 (tI s6) rfl rfl (does_move rfl) ?_
      refine okL_step 7 (tL 1 lI a0) rfl rfl (does_move rfl) ?_
      refine okL_step 8 (tI ((a0).length : Int)) rfl rfl (does_len (sz := 1) (f := lI) (l := a0) rfl Tryd.underlying31 rfl) ?_
      refine okL_step 9 (tB (decide (s6 < ((a0).length : Int)))) rfl rfl (does_lss rfl rfl) ?_
      refine okL_nil ?_
      refine okX_next ?_
      refine okC_cond (b := (decide (s6 < ((a0).length : Int)))) rfl (fun hb8 => ?_) (fun hb8 => ?_)
      · replace h := ct hb8 h
        refine okC_skip ?_
        refine okX_next ?_
        refine okC_seq ?_
        refine okC_block ?_
        refine okC_seq ?_
        refine okC_region ?_
        refine okL_step 12 (tL 1 lI a0) rfl rfl (does_move rfl) ?_
        refine okL_step 13 (tI s6) rfl rfl (does_move rfl) ?_
        obtain ⟨y9, hi10, h⟩ := bs h
        refine okL_step 14 (Ty.ptr [(tI y9)]) rfl rfl (does_index (sz := 1) (f := lI) (l := a0) (n := s6) y9 Tryd.underlying31 Tryd.sizeOf3 hi10 rfl rfl) ?_
        refine okL_step 15 (tI y9) rfl rfl (does_load1 Tryd.isAgg3 rfl) ?_
        refine okL_step 16 (tI a1) rfl rfl (does_move rfl) ?_
        refine okL_step 17 (tB (y9 == a1)) rfl rfl (does_eql rfl rfl) ?_
        refine okL_nil ?_
        refine okX_next ?_
        refine okC_cond (b := (y9 == a1)) rfl (fun hb11 => ?_) (fun hb11 => ?_)
        · replace h := ct hb11 h
          refine okC_seq ?_
          refine okC_region ?_
          refine okL_step 4 (tB true) rfl rfl (does_assign rfl) ?_
          refine okL_nil ?_
          refine okX_next ?_
          refine okC_ret ?_
          refine okX_block_ret ?_
          refine okX_then_ret ?_
          refine okX_again_ret ?_
          refine okX_block_ret ?_
          refine okX_meet_ret ?_
          replace h := outh h hz4
          refine okX_then_ret ?_
          obtain rfl := (smh h).symm
          exact okX_ret1 () Tryd.results40 rfl rfl
        · replace h := cf hb11 h
          refine okC_skip ?_
          refine okX_block_normal ?_
          refine okX_next ?_
          refine okC_region ?_
          refine okL_step 10 (tI s6) rfl rfl (does_move rfl) ?_
          refine okL_step 11 (tI (w64 (s6 + 1))) rfl rfl (does_add rfl rfl) ?_
          refine okL_step 5 (tI (w64 (s6 + 1))) rfl rfl (does_assign rfl) ?_
          refine okL_nil ?_
          exact okX_again k (Nat.lt_succ_self k) (w64 (s6 + 1)) h (cc rfl (cc rfl (cc rfl cn))) rfl
      · replace h := cf hb8 h
        refine okC_exit ?_
        refine okX_then_exit ?_
        refine okX_again_exit ?_
        refine okX_block_hit ?_
        exact okX_meet (I := _) () (innh h) cn rfl
  · intro s1 hx
    change OkX _ _ _ [] (L)
    have hx : z3 = .inl s1 := hx
    subst hx
    replace h := hz4
    refine okX_next ?_
    refine okC_seq ?_
    refine okC_region ?_
    refine okL_step 4 (tB false) rfl rfl (does_assign rfl) ?_
    refine okL_nil ?_
    refine okX_next ?_
    refine okC_ret ?_
    obtain rfl := (smh h).symm
    exact okX_ret1 () Tryd.results40 rfl rfl

def liveness_set_list_l2 (K : Nat) (a0 : (List Int)) (s6 : (Int × (List Int))) : Nat → (Int × (List Int)) → Option (List Int)
  | 0, _ => none
  | k + 1, s14 => (Option.bind (idx a0 s6.1) (fun y16 => (cnd ((bShr .u64 y16 (u64 s14.1)) != 0) (Option.bind (Option.bind (idx a0 s6.1) (fun y24 => (cnd ((bAnd .u64 (bShr .u64 y24 (u64 s14.1)) 1) == 1) (Option.bind (app 8 s14.2 ([(w64 ((w64 (64 * s6.1)) + s14.1))] : List Int)) (fun l27 => (some l27))) (some s14.2)))) (fun s19 => (liveness_set_list_l2 K a0 s6 k ((w64 (s14.1 + 1)), s19)))) (some s14.2))))

def liveness_set_list_l1 (K : Nat) (a0 : (List Int)) : Nat → (Int × (List Int)) → Option (List Int)
  | 0, _ => none
  | k + 1, s6 => (cnd (decide (s6.1 < ((a0).length : Int))) (Option.bind (liveness_set_list_l2 K a0 s6 K (0, s6.2)) (fun s9 => (liveness_set_list_l1 K a0 k ((w64 (s6.1 + 1)), s9)))) (some s6.2))

def liveness_set_list (K : Nat) (a0 : (List Int)) : Option (List Int) :=
  (Option.bind (liveness_set_list_l1 K a0 K (0, ([] : List Int))) (fun s1 => (some s1)))

theorem c_liveness_set_list (K : Nat) (a0 : (List Int)) (r : (List Int)) (h : liveness_set_list K a0 = some r) : CallOk Tryd.prog glob 65 [(tL 1 lU a0)] [] Value (fun x : Value => ((Ty.own x), [rowL x 3 1 lI r])) := by
  refine call_of_code Tryd.func65 rfl Tryd.ntmps65 rfl (fun L w => ?_)
  change OkC _ _ _ [(0, (tL 1 lU a0))] (L)
  unfold liveness_set_list at h
  refine okC_seq ?_
  refine okC_region ?_
  refine okL_step 2 (Ty.val (.slice none 0 0)) rfl rfl (does_assign rfl) ?_
  refine okL_nil ?_
  refine okX_next ?_
  refine okC_seq ?_
  refine okC_region ?_
  refine okL_step 3 (Ty.val (.slice none 0 0)) rfl rfl (does_assign rfl) ?_
  refine okL_nil ?_
  refine okX_next ?_
  refine okC_seq ?_
  refine okC_seq ?_
  refine okC_region ?_
  refine okL_step 6 (tL 1 lU a0) rfl rfl (does_move rfl) ?_
  refine okL_step 7 (tI ((a0).length : Int)) rfl rfl (does_len (sz := 1) (f := lU) (l := a0) rfl Tryd.underlying93 rfl) ?_
  refine okL_step 8 (tI 0) rfl rfl (does_move rfl) ?_
  refine okL_nil ?_
  refine okX_next ?_
  refine okC_nilrow (sz := 1) lI 3 3 rfl ?_
  obtain ⟨z3, h5, hz4⟩ := bs h
  refine okC_meetE (X := ((List Int) × Value)) (fun x => z3 = x.1) (fun x : ((List Int) × Value) => [(3, (Ty.own x.2))]) (fun x : ((List Int) × Value) => rowL x.2 3 1 lI x.1 :: L) ?_ ?_
  · refine okC_block ?_
    refine okC_loop (X := ((Int × (List Int)) × Value)) (fun k x => liveness_set_list_l1 K a0 k x.1 = some z3) (fun x : ((Int × (List Int)) × Value) => [(0, (tL 1 lU a0)), (3, (Ty.own x.2)), (7, (tI ((a0).length : Int))), (8, (tI x.1.1))]) (fun x : ((Int × (List Int)) × Value) => rowL x.2 3 1 lI x.1.2 :: L) K ((0, ([] : List Int)), (.slice none 0 0)) h5 (cc rfl (cc rfl (cc rfl (cc rfl cn)))) rfl (fun k x hI => ?_)
    obtain ⟨s6, w7⟩ := x
    change OkC _ _ _ [(0, (tL 1 lU a0)), (3, (Ty.own w7)), (7, (tI ((a0).length : Int))), (8, (tI s6.1))] (rowL w7 3 1 lI s6.2 :: L)
    cases k with
    | zero => exact (nz hI).elim
    | succ k =>
      have h : liveness_set_list_l1 K a0 (k + 1) s6 = some z3 := hI
      rw [liveness_set_list_l1.eq_2] at h
      refine okC_seq ?_
      refine okC_region ?_
      refine okL_step 9 (tB (decide (s6.1 < ((a0).length : Int)))) rfl rfl (does_lss rfl rfl) ?_
      refine okL_nil ?_
      refine okX_next ?_
      refine okC_seq ?_
      refine okC_cond (b := (decide (s6.1 < ((a0).length : Int)))) rfl (fun hb8 => ?_) (fun hb8 => ?_)
      · replace h := ct hb8 h
        refine okC_skip ?_
        refine okX_next ?_
        refine okC_seq ?_
        refine okC_block ?_
        refine okC_seq ?_
        refine okC_region ?_
        refine okL_step 10 (tI s6.1) rfl rfl (does_move rfl) ?_
        refine okL_step 4 (tI s6.1) rfl rfl (does_assign rfl) ?_
        refine okL_nil ?_
        refine okX_next ?_
        refine okC_seq ?_
        refine okC_region ?_
        refine okL_step 5 (tI 0) rfl rfl (does_assign rfl) ?_
        refine okL_nil ?_
        refine okX_next ?_
        obtain ⟨z11, h13, hz12⟩ := bs h
        refine okC_meetE (X := ((List Int) × Value)) (fun x => z11 = x.1) (fun x : ((List Int) × Value) => [(0, (tL 1 lU a0)), (3, (Ty.own x.2)), (7, (tI ((a0).length : Int))), (8, (tI s6.1))]) (fun x : ((List Int) × Value) => rowL x.2 3 1 lI x.1 :: L) ?_ ?_
        · refine okC_block ?_
          refine okC_loop (X := ((Int × (List Int)) × Value)) (fun k x => liveness_set_list_l2 K a0 s6 k x.1 = some z11) (fun x : ((Int × (List Int)) × Value) => [(0, (tL 1 lU a0)), (3, (Ty.own x.2)), (4, (tI s6.1)), (5, (tI x.1.1)), (7, (tI ((a0).length : Int))), (8, (tI s6.1))]) (fun x : ((Int × (List Int)) × Value) => rowL x.2 3 1 lI x.1.2 :: L) K ((0, s6.2), w7) h13 (cc rfl (cc rfl (cc rfl (cc rfl (cc rfl (cc rfl cn)))))) rfl (fun k x hI => ?_)
          obtain ⟨s14, w15⟩ := x
          change OkC _ _ _ [(0, (tL 1 lU a0)), (3, (Ty.own w15)), (4, (tI s6.1)), (5, (tI s14.1)), (7, (tI ((a0).length : Int))), (8, (tI s6.1))] (rowL w15 3 1 lI s14.2 :: L)
          cases k with
          | zero => exact (nz hI).elim
          | succ k =>
            have h : liveness_set_list_l2 K a0 s6 (k + 1) s14 = some z11 := hI
            rw [liveness_set_list_l2.eq_2] at h
            refine okC_seq ?_
            refine okC_seq ?_
            refine okC_region ?_
            refine okL_step 11 (tL 1 lU a0) rfl rfl (does_move rfl) ?_
            refine okL_step 12 (tI s6.1) rfl rfl (does_move rfl) ?_
            obtain ⟨y16, hi17, h⟩ := bs h
            refine okL_step 13 (Ty.ptr [(tK .u64 y16)]) rfl rfl (does_index (sz := 1) (f := lU) (l := a0) (n := s6.1) y16 Tryd.underlying93 Tryd.sizeOf137 hi17 rfl rfl) ?_
            refine okL_step 14 (tK .u64 y16) rfl rfl (does_load1 Tryd.isAgg137 rfl) ?_
            refine okL_step 15 (tI s14.1) rfl rfl (does_move rfl) ?_
            refine okL_step 16 (tK .u64 (u64 s14.1)) rfl rfl (does_convert Tryd.underlying3 Tryd.underlying138 rfl) ?_
            refine okL_step 17 (tK .u64 (bShr .u64 y16 (u64 s14.1))) rfl rfl (does_shr (wrap_u64_nonneg _) rfl rfl) ?_
            refine okL_step 18 (tB ((bShr .u64 y16 (u64 s14.1)) != 0)) rfl rfl (does_neq rfl rfl) ?_
            refine okL_nil ?_
            refine okX_next ?_
            refine okC_cond (b := ((bShr .u64 y16 (u64 s14.1)) != 0)) rfl (fun hb18 => ?_) (fun hb18 => ?_)
            · replace h := ct hb18 h
              refine okC_skip ?_
              refine okX_next ?_
              obtain ⟨z21, h23, hz22⟩ := bs h
              refine okC_meet (X := ((List Int) × Value)) (fun x => z21 = x.1) (fun x : ((List Int) × Value) => [(0, (tL 1 lU a0)), (3, (Ty.own x.2)), (4, (tI s6.1)), (5, (tI s14.1)), (7, (tI ((a0).length : Int))), (8, (tI s6.1))]) (fun x : ((List Int) × Value) => rowL x.2 3 1 lI x.1 :: L) ?_ ?_
              · refine okC_block ?_
                refine okC_seq ?_
                refine okC_region ?_
                refine okL_step 21 (tL 1 lU a0) rfl rfl (does_move rfl) ?_
                refine okL_step 22 (tI s6.1) rfl rfl (does_move rfl) ?_
                obtain ⟨y24, hi25, h23⟩ := bs h23
                refine okL_step 23 (Ty.ptr [(tK .u64 y24)]) rfl rfl (does_index (sz := 1) (f := lU) (l := a0) (n := s6.1) y24 Tryd.underlying93 Tryd.sizeOf137 hi25 rfl rfl) ?_
                refine okL_step 24 (tK .u64 y24) rfl rfl (does_load1 Tryd.isAgg137 rfl) ?_
                refine okL_step 25 (tI s14.1) rfl rfl (does_move rfl) ?_
                refine okL_step 26 (tK .u64 (u64 s14.1)) rfl rfl (does_convert Tryd.underlying3 Tryd.underlying138 rfl) ?_
                refine okL_step 27 (tK .u64 (bShr .u64 y24 (u64 s14.1))) rfl rfl (does_shr (wrap_u64_nonneg _) rfl rfl) ?_
                refine okL_step 28 (tK .u64 (bAnd .u64 (bShr .u64 y24 (u64 s14.1)) 1)) rfl rfl (does_and rfl rfl) ?_
                refine okL_step 29 (tB ((bAnd .u64 (bShr .u64 y24 (u64 s14.1)) 1) == 1)) rfl rfl (does_eql rfl rfl) ?_
                refine okL_nil ?_
                refine okX_next ?_
                refine okC_cond (b := ((bAnd .u64 (bShr .u64 y24 (u64 s14.1)) 1) == 1)) rfl (fun hb26 => ?_) (fun hb26 => ?_)
                · replace h23 := ct hb26 h23
                  refine okC_region ?_
                  refine okL_step 30 (Ty.own w15) rfl rfl (does_move rfl) ?_
                  refine okL_step 31 (tI s6.1) rfl rfl (does_move rfl) ?_
                  refine okL_step 32 (tI (w64 (64 * s6.1))) rfl rfl (does_mul rfl rfl) ?_
                  refine okL_step 33 (tI s14.1) rfl rfl (does_move rfl) ?_
                  refine okL_step 34 (tI (w64 ((w64 (64 * s6.1)) + s14.1))) rfl rfl (does_add rfl rfl) ?_
                  refine okL_step 35 (tL 1 lI ([(w64 ((w64 (64 * s6.1)) + s14.1))] : List Int)) rfl rfl (does_buildSlice (f := lI) ([(w64 ((w64 (64 * s6.1)) + s14.1))] : List Int) [(tI (w64 ((w64 (64 * s6.1)) + s14.1)))] el31 rfl rfl rfl (fc [(tI (w64 ((w64 (64 * s6.1)) + s14.1)))] 0 rfl (part_one (one_i _)) rfl rfl (fn_ rfl)) rfl (fun _ => rfl)) ?_
                  obtain ⟨l27, ha28, h23⟩ := bs h23
                  refine okL_stepO 36 rfl rfl (doesO_append (f := lI) (l := s14.2) (m := ([(w64 ((w64 (64 * s6.1)) + s14.1))] : List Int)) el31 0 l27 (fun v29 => rowL v29 3 1 lI l27 :: L) ha28 rfl rfl rfl (fun _ => rfl) (fun v29 => ?_))
                  refine okL_step 3 (Ty.own v29) rfl rfl (does_assign rfl) ?_
                  refine okL_nil ?_
                  refine okX_block_normal ?_
                  exact okX_meet (I := _) (l27, v29) (smh h23) (cc rfl (cc rfl (cc rfl (cc rfl (cc rfl (cc rfl cn)))))) rfl
                · replace h23 := cf hb26 h23
                  refine okC_skip ?_
                  refine okX_block_normal ?_
                  exact okX_meet (I := _) (s14.2, w15) (smh h23) (cc rfl (cc rfl (cc rfl (cc rfl (cc rfl (cc rfl cn)))))) rfl
              · intro x hx
                obtain ⟨s19, w20⟩ := x
                change OkC _ _ _ [(0, (tL 1 lU a0)), (3, (Ty.own w20)), (4, (tI s6.1)), (5, (tI s14.1)), (7, (tI ((a0).length : Int))), (8, (tI s6.1))] (rowL w20 3 1 lI s19 :: L)
                obtain rfl : s19 = z21 := hx.symm
                replace h := hz22
                refine okC_region ?_
                refine okL_step 19 (tI s14.1) rfl rfl (does_move rfl) ?_
                refine okL_step 20 (tI (w64 (s14.1 + 1))) rfl rfl (does_add rfl rfl) ?_
                refine okL_step 5 (tI (w64 (s14.1 + 1))) rfl rfl (does_assign rfl) ?_
                refine okL_nil ?_
                exact okX_again k (Nat.lt_succ_self k) (((w64 (s14.1 + 1)), s19), w20) h (cc rfl (cc rfl (cc rfl (cc rfl (cc rfl (cc rfl cn)))))) rfl
            · replace h := cf hb18 h
              refine okC_exit ?_
              refine okX_then_exit ?_
              refine okX_again_exit ?_
              refine okX_block_hit ?_
              exact okX_meet (I := _) (s14.2, w15) (smh h) (cc rfl (cc rfl (cc rfl (cc rfl cn)))) rfl
        · intro x hx
          obtain ⟨s9, w10⟩ := x
          change OkX _ _ _ [(0, (tL 1 lU a0)), (3, (Ty.own w10)), (7, (tI ((a0).length : Int))), (8, (tI s6.1))] (rowL w10 3 1 lI s9 :: L)
          obtain rfl : s9 = z11 := hx.symm
          replace h := hz12
          refine okX_block_normal ?_
          refine okX_next ?_
          refine okC_region ?_
          refine okL_step 37 (tI (w64 (s6.1 + 1))) rfl rfl (does_add rfl rfl) ?_
          refine okL_step 8 (tI (w64 (s6.1 + 1))) rfl rfl (does_move rfl) ?_
          refine okL_nil ?_
          exact okX_again k (Nat.lt_succ_self k) (((w64 (s6.1 + 1)), s9), w10) h (cc rfl (cc rfl (cc rfl (cc rfl cn)))) rfl
      · replace h := cf hb8 h
        refine okC_exit ?_
        refine okX_then_exit ?_
        refine okX_again_exit ?_
        refine okX_block_hit ?_
        exact okX_meet (I := _) (s6.2, w7) (smh h) (cc rfl cn) rfl
  · intro x hx
    obtain ⟨s1, w2⟩ := x
    change OkX _ _ _ [(3, (Ty.own w2))] (rowL w2 3 1 lI s1 :: L)
    obtain rfl : s1 = z3 := hx.symm
    replace h := hz4
    refine okX_next ?_
    refine okC_seq ?_
    refine okC_region ?_
    refine okL_step 38 (Ty.own w2) rfl rfl (does_move rfl) ?_
    refine okL_step 2 (Ty.own w2) rfl rfl (does_assign rfl) ?_
    refine okL_nil ?_
    refine okX_next ?_
    refine okC_ret ?_
    obtain rfl := (smh h).symm
    exact okX_ret1 w2 Tryd.results65 rfl rfl

theorem d_liveness_set_list (K : Nat) (a0 : (List Int)) (r : (List Int)) (h : liveness_set_list K a0 = some r) : CallP Tryd.prog glob 65 [(tL 1 lU a0)] (tL 1 lI r) := callP_of_own (c_liveness_set_list K a0 r h)

def ref22_SameInts_l1 (K : Nat) (a0 : (List Int)) (a1 : (List Int)) : Nat → Int → Option (Unit ⊕ Bool)
  | 0, _ => none
  | k + 1, s7 => (cnd (decide (s7 < ((a0).length : Int))) (Option.bind (idx a0 s7) (fun y10 => (Option.bind (idx a1 s7) (fun y12 => (cnd (y10 != y12) (out (some false)) (ref22_SameInts_l1 K a0 a1 k (w64 (s7 + 1)))))))) (inn ()))

def ref22_SameInts (K : Nat) (a0 : (List Int)) (a1 : (List Int)) : Option Bool :=
  (cnd (((a0).length : Int) != ((a1).length : Int)) (some false) (sq (ref22_SameInts_l1 K a0 a1 K 0) (fun s2 => (some true))))

theorem c_ref22_SameInts (K : Nat) (a0 : (List Int)) (a1 : (List Int)) (r : Bool) (h : ref22_SameInts K a0 a1 = some r) : CallP Tryd.prog glob 26 [(tL 1 lI a0), (tL 1 lI a1)] (tB r) := by
  refine call_of_code Tryd.func26 rfl Tryd.ntmps26 rfl (fun L w => ?_)
  change OkC _ _ _ [(0, (tL 1 lI a0)), (1, (tL 1 lI a1))] (L)
  unfold ref22_SameInts at h
  refine okC_seq ?_
  refine okC_region ?_
  refine okL_step 4 (tB false) rfl rfl (does_assign rfl) ?_
  refine okL_nil ?_
  refine okX_next ?_
  refine okC_seq ?_
  refine okC_seq ?_
  refine okC_region ?_
  refine okL_step 6 (tL 1 lI a0) rfl rfl (does_move rfl) ?_
  refine okL_step 7 (tI ((a0).length : Int)) rfl rfl (does_len (sz := 1) (f := lI) (l := a0) rfl Tryd.underlying31 rfl) ?_
  refine okL_step 8 (tL 1 lI a1) rfl rfl (does_move rfl) ?_
  refine okL_step 9 (tI ((a1).length : Int)) rfl rfl (does_len (sz := 1) (f := lI) (l := a1) rfl Tryd.underlying31 rfl) ?_
  refine okL_step 10 (tB (((a0).length : Int) != ((a1).length : Int))) rfl rfl (does_neq rfl rfl) ?_
  refine okL_nil ?_
  refine okX_next ?_
  refine okC_cond (b := (((a0).length : Int) != ((a1).length : Int))) rfl (fun hb1 => ?_) (fun hb1 => ?_)
  · replace h := ct hb1 h
    refine okC_seq ?_
    refine okC_region ?_
    refine okL_step 4 (tB false) rfl rfl (does_assign rfl) ?_
    refine okL_nil ?_
    refine okX_next ?_
    refine okC_ret ?_
    refine okX_then_ret ?_
    obtain rfl := (smh h).symm
    exact okX_ret1 () Tryd.results26 rfl rfl
  · replace h := cf hb1 h
    refine okC_skip ?_
    refine okX_next ?_
    refine okC_seq ?_
    refine okC_seq ?_
    refine okC_region ?_
    refine okL_step 5 (tI 0) rfl rfl (does_assign rfl) ?_
    refine okL_nil ?_
    refine okX_next ?_
    obtain ⟨z4, h6, hz5⟩ := sqs h
    refine okC_meetE (X := Unit) (fun x => z4 = .inl x) (fun x : Unit => []) (fun x : Unit => L) ?_ ?_
    · refine okC_block ?_
      refine okC_loop (X := Int) (fun k x => ref22_SameInts_l1 K a0 a1 k x = some z4) (fun x : Int => [(0, (tL 1 lI a0)), (1, (tL 1 lI a1)), (5, (tI x))]) (fun x : Int => L) K 0 h6 (cc rfl (cc rfl (cc rfl cn))) rfl (fun k s7 hI => ?_)
      change OkC _ _ _ [(0, (tL 1 lI a0)), (1, (tL 1 lI a1)), (5, (tI s7))] (L)
      cases k with
      | zero => exact (nz hI).elim
      | succ k =>
        have h : ref22_SameInts_l1 K a0 a1 (k + 1) s7 = some z4 := hI
        rw [ref22_SameInts_l1.eq_2] at h
        refine okC_seq ?_
        refine okC_seq ?_
        refine okC_region ?_
        refine okL_step 11 (tI s7) rfl rfl (does_move rfl) ?_
        refine okL_step 12 (tL 1 lI a0) rfl rfl (does_move rfl) ?_
        refine okL_step 13 (tI ((a0).length : Int)) rfl rfl (does_len (sz := 1) (f := lI) (l := a0) rfl Tryd.underlying31 rfl) ?_
        refine okL_step 14 (tB (decide (s7 < ((a0).length : Int)))) rfl rfl (does_lss rfl rfl) ?_
        refine okL_nil ?_
        refine okX_next ?_
        refine okC_cond (b := (decide (s7 < ((a0).length : Int)))) rfl (fun hb9 => ?_) (fun hb9 => ?_)
        · replace h := ct hb9 h
          refine okC_skip ?_
          refine okX_next ?_
          refine okC_seq ?_
          refine okC_block ?_
          refine okC_seq ?_
          refine okC_cov [(0, (tL 1 lI a0)), (1, (tL 1 lI a1)), (5, (tI s7))] (cc rfl (cc rfl (cc rfl cn))) ?_
          obtain ⟨y10, hi11, h⟩ := bs h
          obtain ⟨y12, hi13, h⟩ := bs h
          refine okC_draw 8 [some (17, (tL 1 lI a0)), some (18, (tI s7)), some (19, (Ty.ptr [(tI y10)])), some (20, (tI y10)), some (21, (tL 1 lI a1)), some (22, (tI s7)), some (23, (Ty.ptr [(tI y12)])), some (24, (tI y12))] ⟨([] : List Item), ([] : List Item), []⟩ [] mixed rfl rfl (by kernel_rfl) rfl (by kernel_rfl) rfl rfl rfl (fun _ h => nomatch h) (fun _ h => nomatch h) rfl (by kernel_rfl) (.inr ⟨by kernel_rfl, by kernel_rfl⟩) (by kernel_rfl) (by kernel_rfl) (dc (draw_plain rfl (does_move rfl)) (dc (draw_plain rfl (does_move rfl)) (dc (draw_plain rfl (does_index (sz := 1) (f := lI) (l := a0) (n := s7) y10 Tryd.underlying31 Tryd.sizeOf3 hi11 rfl rfl)) (dc (draw_plain rfl (does_load1 Tryd.isAgg3 rfl)) (dc (draw_plain rfl (does_move rfl)) (dc (draw_plain rfl (does_move rfl)) (dc (draw_plain rfl (does_index (sz := 1) (f := lI) (l := a1) (n := s7) y12 Tryd.underlying31 Tryd.sizeOf3 hi13 rfl rfl)) (dc (draw_plain rfl (does_load1 Tryd.isAgg3 rfl)) (dn))))))))) ?_
          refine ch_end ?_
          change OkL _ _ _ _ [(17, (tL 1 lI a0)), (18, (tI s7)), (19, (Ty.ptr [(tI y10)])), (20, (tI y10)), (21, (tL 1 lI a1)), (22, (tI s7)), (23, (Ty.ptr [(tI y12)])), (24, (tI y12)), (0, (tL 1 lI a0)), (1, (tL 1 lI a1)), (5, (tI s7))] (L)
          refine okL_step 25 (tB (y10 != y12)) rfl rfl (does_neq rfl rfl) ?_
          refine okL_nil ?_
          refine okX_next ?_
          refine okC_cond (b := (y10 != y12)) rfl (fun hb14 => ?_) (fun hb14 => ?_)
          · replace h := ct hb14 h
            refine okC_seq ?_
            refine okC_region ?_
            refine okL_step 4 (tB false) rfl rfl (does_assign rfl) ?_
            refine okL_nil ?_
            refine okX_next ?_
            refine okC_ret ?_
            refine okX_block_ret ?_
            refine okX_then_ret ?_
            refine okX_again_ret ?_
            refine okX_block_ret ?_
            refine okX_meet_ret ?_
            replace h := outh h hz5
            refine okX_then_ret ?_
            obtain rfl := (smh h).symm
            exact okX_ret1 () Tryd.results26 rfl rfl
          · replace h := cf hb14 h
            refine okC_skip ?_
            refine okX_block_normal ?_
            refine okX_next ?_
            refine okC_region ?_
            refine okL_step 15 (tI s7) rfl rfl (does_move rfl) ?_
            refine okL_step 16 (tI (w64 (s7 + 1))) rfl rfl (does_add rfl rfl) ?_
            refine okL_step 5 (tI (w64 (s7 + 1))) rfl rfl (does_assign rfl) ?_
            refine okL_nil ?_
            exact okX_again k (Nat.lt_succ_self k) (w64 (s7 + 1)) h (cc rfl (cc rfl (cc rfl cn))) rfl
        · replace h := cf hb9 h
          refine okC_exit ?_
          refine okX_then_exit ?_
          refine okX_again_exit ?_
          refine okX_block_hit ?_
          exact okX_meet (I := _) () (innh h) cn rfl
    · intro s2 hx
      change OkX _ _ _ [] (L)
      have hx : z4 = .inl s2 := hx
      subst hx
      replace h := hz5
      refine okX_next ?_
      refine okC_seq ?_
      refine okC_region ?_
      refine okL_step 4 (tB true) rfl rfl (does_assign rfl) ?_
      refine okL_nil ?_
      refine okX_next ?_
      refine okC_ret ?_
      obtain rfl := (smh h).symm
      exact okX_ret1 () Tryd.results26 rfl rfl

def ref32_Minus_l1 (K : Nat) (a0 : (List Int)) (a1 : (List Int)) : Nat → (Int × (List Int)) → Option (List Int)
  | 0, _ => none
  | k + 1, s6 => (cnd (decide (s6.1 < ((a0).length : Int))) (Option.bind (Option.bind (idx a0 s6.1) (fun y14 => (Option.bind (ref32_Contains K a1 y14) (fun r16 => (cnd (!r16) (Option.bind (idx a0 s6.1) (fun y19 => (Option.bind (app 8 s6.2 ([y19] : List Int)) (fun l21 => (some l21))))) (some s6.2)))))) (fun s9 => (ref32_Minus_l1 K a0 a1 k ((w64 (s6.1 + 1)), s9)))) (some s6.2))

def ref32_Minus (K : Nat) (a0 : (List Int)) (a1 : (List Int)) : Option (List Int) :=
  (Option.bind (ref32_Minus_l1 K a0 a1 K (0, ([] : List Int))) (fun s1 => (some s1)))

theorem c_ref32_Minus (K : Nat) (a0 : (List Int)) (a1 : (List Int)) (r : (List Int)) (h : ref32_Minus K a0 a1 = some r) : CallP Tryd.prog glob 36 [(tL 1 lI a0), (tL 1 lI a1)] (tL 1 lI r) := by
  refine call_of_code Tryd.func36 rfl Tryd.ntmps36 rfl (fun L w => ?_)
  change OkC _ _ _ [(0, (tL 1 lI a0)), (1, (tL 1 lI a1))] (L)
  unfold ref32_Minus at h
  refine okC_seq ?_
  refine okC_region ?_
  refine okL_step 4 (Ty.val (.slice none 0 0)) rfl rfl (does_assign rfl) ?_
  refine okL_nil ?_
  refine okX_next ?_
  refine okC_seq ?_
  refine okC_region ?_
  refine okL_step 5 (Ty.val (.slice none 0 0)) rfl rfl (does_assign rfl) ?_
  refine okL_nil ?_
  refine okX_next ?_
  refine okC_seq ?_
  refine okC_seq ?_
  refine okC_region ?_
  refine okL_step 6 (tI 0) rfl rfl (does_assign rfl) ?_
  refine okL_nil ?_
  refine okX_next ?_
  refine okC_nilrow (sz := 1) lI 3 5 rfl ?_
  obtain ⟨z3, h5, hz4⟩ := bs h
  refine okC_meetE (X := ((List Int) × Value)) (fun x => z3 = x.1) (fun x : ((List Int) × Value) => [(5, (Ty.own x.2))]) (fun x : ((List Int) × Value) => rowL x.2 3 1 lI x.1 :: L) ?_ ?_
  · refine okC_block ?_
    refine okC_loop (X := ((Int × (List Int)) × Value)) (fun k x => ref32_Minus_l1 K a0 a1 k x.1 = some z3) (fun x : ((Int × (List Int)) × Value) => [(0, (tL 1 lI a0)), (1, (tL 1 lI a1)), (5, (Ty.own x.2)), (6, (tI x.1.1))]) (fun x : ((Int × (List Int)) × Value) => rowL x.2 3 1 lI x.1.2 :: L) K ((0, ([] : List Int)), (.slice none 0 0)) h5 (cc rfl (cc rfl (cc rfl (cc rfl cn)))) rfl (fun k x hI => ?_)
    obtain ⟨s6, w7⟩ := x
    change OkC _ _ _ [(0, (tL 1 lI a0)), (1, (tL 1 lI a1)), (5, (Ty.own w7)), (6, (tI s6.1))] (rowL w7 3 1 lI s6.2 :: L)
    cases k with
    | zero => exact (nz hI).elim
    | succ k =>
      have h : ref32_Minus_l1 K a0 a1 (k + 1) s6 = some z3 := hI
      rw [ref32_Minus_l1.eq_2] at h
      refine okC_seq ?_
      refine okC_seq ?_
      refine okC_region ?_
      refine okL_step 7 (tI s6.1) rfl rfl (does_move rfl) ?_
      refine okL_step 8 (tL 1 lI a0) rfl rfl (does_move rfl) ?_
      refine okL_step 9 (tI ((a0).length : Int)) rfl rfl (does_len (sz := 1) (f := lI) (l := a0) rfl Tryd.underlying31 rfl) ?_
      refine okL_step 10 (tB (decide (s6.1 < ((a0).length : Int)))) rfl rfl (does_lss rfl rfl) ?_
      refine okL_nil ?_
      refine okX_next ?_
      refine okC_cond (b := (decide (s6.1 < ((a0).length : Int)))) rfl (fun hb8 => ?_) (fun hb8 => ?_)
      · replace h := ct hb8 h
        refine okC_skip ?_
        refine okX_next ?_
        obtain ⟨z11, h13, hz12⟩ := bs h
        refine okC_meet (X := ((List Int) × Value)) (fun x => z11 = x.1) (fun x : ((List Int) × Value) => [(0, (tL 1 lI a0)), (1, (tL 1 lI a1)), (5, (Ty.own x.2)), (6, (tI s6.1))]) (fun x : ((List Int) × Value) => rowL x.2 3 1 lI x.1 :: L) ?_ ?_
        · refine okC_block ?_
          refine okC_seq ?_
          refine okC_region ?_
          refine okL_step 13 (tL 1 lI a1) rfl rfl (does_move rfl) ?_
          refine okL_step 14 (tL 1 lI a0) rfl rfl (does_move rfl) ?_
          refine okL_step 15 (tI s6.1) rfl rfl (does_move rfl) ?_
          obtain ⟨y14, hi15, h13⟩ := bs h13
          refine okL_step 16 (Ty.ptr [(tI y14)]) rfl rfl (does_index (sz := 1) (f := lI) (l := a0) (n := s6.1) y14 Tryd.underlying31 Tryd.sizeOf3 hi15 rfl rfl) ?_
          refine okL_step 17 (tI y14) rfl rfl (does_load1 Tryd.isAgg3 rfl) ?_
          obtain ⟨r16, hc17, h13⟩ := bs h13
          refine okL_step 18 (tB r16) rfl rfl (does_call0 (c_ref32_Contains K a1 y14 r16 hc17) rfl Tryd.call40 rfl) ?_
          refine okL_step 19 (tB (!r16)) rfl rfl (does_not rfl) ?_
          refine okL_nil ?_
          refine okX_next ?_
          refine okC_cond (b := (!r16)) rfl (fun hb18 => ?_) (fun hb18 => ?_)
          · replace h13 := ct hb18 h13
            refine okC_region ?_
            refine okL_step 20 (Ty.own w7) rfl rfl (does_move rfl) ?_
            refine okL_step 21 (tL 1 lI a0) rfl rfl (does_move rfl) ?_
            refine okL_step 22 (tI s6.1) rfl rfl (does_move rfl) ?_
            obtain ⟨y19, hi20, h13⟩ := bs h13
            refine okL_step 23 (Ty.ptr [(tI y19)]) rfl rfl (does_index (sz := 1) (f := lI) (l := a0) (n := s6.1) y19 Tryd.underlying31 Tryd.sizeOf3 hi20 rfl rfl) ?_
            refine okL_step 24 (tI y19) rfl rfl (does_load1 Tryd.isAgg3 rfl) ?_
            refine okL_step 25 (tL 1 lI ([y19] : List Int)) rfl rfl (does_buildSlice (f := lI) ([y19] : List Int) [(tI y19)] el31 rfl rfl rfl (fc [(tI y19)] 0 rfl (part_one (one_i _)) rfl rfl (fn_ rfl)) rfl (fun _ => rfl)) ?_
            obtain ⟨l21, ha22, h13⟩ := bs h13
            refine okL_stepO 26 rfl rfl (doesO_append (f := lI) (l := s6.2) (m := ([y19] : List Int)) el31 0 l21 (fun v23 => rowL v23 3 1 lI l21 :: L) ha22 rfl rfl rfl (fun _ => rfl) (fun v23 => ?_))
            refine okL_step 5 (Ty.own v23) rfl rfl (does_assign rfl) ?_
            refine okL_nil ?_
            refine okX_block_normal ?_
            exact okX_meet (I := _) (l21, v23) (smh h13) (cc rfl (cc rfl (cc rfl (cc rfl cn)))) rfl
          · replace h13 := cf hb18 h13
            refine okC_skip ?_
            refine okX_block_normal ?_
            exact okX_meet (I := _) (s6.2, w7) (smh h13) (cc rfl (cc rfl (cc rfl (cc rfl cn)))) rfl
        · intro x hx
          obtain ⟨s9, w10⟩ := x
          change OkC _ _ _ [(0, (tL 1 lI a0)), (1, (tL 1 lI a1)), (5, (Ty.own w10)), (6, (tI s6.1))] (rowL w10 3 1 lI s9 :: L)
          obtain rfl : s9 = z11 := hx.symm
          replace h := hz12
          refine okC_region ?_
          refine okL_step 11 (tI s6.1) rfl rfl (does_move rfl) ?_
          refine okL_step 12 (tI (w64 (s6.1 + 1))) rfl rfl (does_add rfl rfl) ?_
          refine okL_step 6 (tI (w64 (s6.1 + 1))) rfl rfl (does_assign rfl) ?_
          refine okL_nil ?_
          exact okX_again k (Nat.lt_succ_self k) (((w64 (s6.1 + 1)), s9), w10) h (cc rfl (cc rfl (cc rfl (cc rfl cn)))) rfl
      · replace h := cf hb8 h
        refine okC_exit ?_
        refine okX_then_exit ?_
        refine okX_again_exit ?_
        refine okX_block_hit ?_
        exact okX_meet (I := _) (s6.2, w7) (smh h) (cc rfl cn) rfl
  · intro x hx
    obtain ⟨s1, w2⟩ := x
    change OkX _ _ _ [(5, (Ty.own w2))] (rowL w2 3 1 lI s1 :: L)
    obtain rfl : s1 = z3 := hx.symm
    replace h := hz4
    refine okX_next ?_
    refine okC_seq ?_
    refine okC_region ?_
    refine okL_step 27 (Ty.own w2) rfl rfl (does_move rfl) ?_
    refine okL_step 4 (Ty.own w2) rfl rfl (does_assign rfl) ?_
    refine okL_nil ?_
    refine okX_next ?_
    refine okC_ret ?_
    obtain rfl := (smh h).symm
    refine okX_publish 0 [5, 27, 4] (L) rfl (ac rfl (ac rfl (ac rfl an))) rfl ?_
    exact okX_ret1 () Tryd.results36 rfl rfl

def keep_Word  (a0 : Int) (a1 : Int) : Option Int :=
  (Option.bind (keep_Pick a0 24) (fun r1 => (cnd (decide (r1 < 10)) (Option.bind (idx ([0, 1, (-1), 2, (-9223372036854775808), 9223372036854775807, 4294967296, (-2147483648), 63, 64] : List Int) r1) (fun y4 => (some y4))) (cnd (decide (r1 < 22)) (Option.bind (keep_Pick (w64 (Int.tdiv a0 24)) 17) (fun r7 => (some (w64 (r7 - 6))))) (some a1)))))

theorem c_keep_Word  (a0 : Int) (a1 : Int) (r : Int) (h : keep_Word  a0 a1 = some r) : CallP Tryd.prog glob 75 [(tI a0), (tI a1)] (tI r) := by
  refine call_of_code Tryd.func75 rfl Tryd.ntmps75 rfl (fun L w => ?_)
  change OkC _ _ _ [(0, (tI a0)), (1, (tI a1))] (L)
  unfold keep_Word at h
  refine okC_seq ?_
  refine okC_region ?_
  refine okL_step 4 (tI 0) rfl rfl (does_assign rfl) ?_
  refine okL_nil ?_
  refine okX_next ?_
  refine okC_seq ?_
  refine okC_region ?_
  refine okL_step 7 (tL 1 lI ([0, 1, (-1), 2, (-9223372036854775808), 9223372036854775807, 4294967296, (-2147483648), 63, 64] : List Int)) rfl rfl (does_buildSlice (f := lI) ([0, 1, (-1), 2, (-9223372036854775808), 9223372036854775807, 4294967296, (-2147483648), 63, 64] : List Int) [(tI 0), (tI 1), (tI (-1)), (tI 2), (tI (-9223372036854775808)), (tI 9223372036854775807), (tI 4294967296), (tI (-2147483648)), (tI 63), (tI 64)] el53 rfl rfl rfl (fc [(tI 0)] 0 rfl (part_one (one_i _)) rfl rfl (fc [(tI 1)] 1 rfl (part_one (one_i _)) rfl rfl (fc [(tI (-1))] 2 rfl (part_one (one_i _)) rfl rfl (fc [(tI 2)] 3 rfl (part_one (one_i _)) rfl rfl (fc [(tI (-9223372036854775808))] 4 rfl (part_one (one_i _)) rfl rfl (fc [(tI 9223372036854775807)] 5 rfl (part_one (one_i _)) rfl rfl (fc [(tI 4294967296)] 6 rfl (part_one (one_i _)) rfl rfl (fc [(tI (-2147483648))] 7 rfl (part_one (one_i _)) rfl rfl (fc [(tI 63)] 8 rfl (part_one (one_i _)) rfl rfl (fc [(tI 64)] 9 rfl (part_one (one_i _)) rfl rfl (fn_ rfl))))))))))) rfl (fun _ => rfl)) ?_
  refine okL_step 5 (tL 1 lI ([0, 1, (-1), 2, (-9223372036854775808), 9223372036854775807, 4294967296, (-2147483648), 63, 64] : List Int)) rfl rfl (does_assign rfl) ?_
  refine okL_nil ?_
  refine okX_next ?_
  refine okC_seq ?_
  refine okC_region ?_
  refine okL_step 8 (tI a0) rfl rfl (does_move rfl) ?_
  obtain ⟨r1, hc2, h⟩ := bs h
  refine okL_step 9 (tI r1) rfl rfl (does_call0 (c_keep_Pick a0 24 r1 hc2) rfl Tryd.call29 rfl) ?_
  refine okL_step 6 (tI r1) rfl rfl (does_assign rfl) ?_
  refine okL_nil ?_
  refine okX_next ?_
  refine okC_seq ?_
  refine okC_block ?_
  refine okC_seq ?_
  refine okC_region ?_
  refine okL_step 11 (tI r1) rfl rfl (does_move rfl) ?_
  refine okL_step 12 (tB (decide (r1 < 10))) rfl rfl (does_lss rfl rfl) ?_
  refine okL_step 10 (tB (decide (r1 < 10))) rfl rfl (does_assign rfl) ?_
  refine okL_nil ?_
  refine okX_next ?_
  refine okC_cond (b := (decide (r1 < 10))) rfl (fun hb3 => ?_) (fun hb3 => ?_)
  · replace h := ct hb3 h
    refine okC_seq ?_
    refine okC_region ?_
    refine okL_step 13 (tL 1 lI ([0, 1, (-1), 2, (-9223372036854775808), 9223372036854775807, 4294967296, (-2147483648), 63, 64] : List Int)) rfl rfl (does_move rfl) ?_
    refine okL_step 14 (tI r1) rfl rfl (does_move rfl) ?_
    obtain ⟨y4, hi5, h⟩ := bs h
    refine okL_step 15 (Ty.ptr [(tI y4)]) rfl rfl (does_index (sz := 1) (f := lI) (l := ([0, 1, (-1), 2, (-9223372036854775808), 9223372036854775807, 4294967296, (-2147483648), 63, 64] : List Int)) (n := r1) y4 Tryd.underlying53 Tryd.sizeOf2 hi5 rfl rfl) ?_
    refine okL_step 16 (tI y4) rfl rfl (does_load1 Tryd.isAgg2 rfl) ?_
    refine okL_step 4 (tI y4) rfl rfl (does_assign rfl) ?_
    refine okL_nil ?_
    refine okX_next ?_
    refine okC_ret ?_
    refine okX_block_ret ?_
    refine okX_then_ret ?_
    obtain rfl := (smh h).symm
    exact okX_ret1 () Tryd.results75 rfl rfl
  · replace h := cf hb3 h
    refine okC_seq ?_
    refine okC_region ?_
    refine okL_step 18 (tI r1) rfl rfl (does_move rfl) ?_
    refine okL_step 19 (tB (decide (r1 < 22))) rfl rfl (does_lss rfl rfl) ?_
    refine okL_step 17 (tB (decide (r1 < 22))) rfl rfl (does_assign rfl) ?_
    refine okL_nil ?_
    refine okX_next ?_
    refine okC_cond (b := (decide (r1 < 22))) rfl (fun hb6 => ?_) (fun hb6 => ?_)
    · replace h := ct hb6 h
      refine okC_seq ?_
      refine okC_region ?_
      refine okL_step 20 (tI a0) rfl rfl (does_move rfl) ?_
      refine okL_step 21 (tI (w64 (Int.tdiv a0 24))) rfl rfl (does_quo (by decide) rfl rfl) ?_
      obtain ⟨r7, hc8, h⟩ := bs h
      refine okL_step 22 (tI r7) rfl rfl (does_call0 (c_keep_Pick (w64 (Int.tdiv a0 24)) 17 r7 hc8) rfl Tryd.call29 rfl) ?_
      refine okL_step 23 (tI (w64 (r7 - 6))) rfl rfl (does_sub rfl rfl) ?_
      refine okL_step 4 (tI (w64 (r7 - 6))) rfl rfl (does_assign rfl) ?_
      refine okL_nil ?_
      refine okX_next ?_
      refine okC_ret ?_
      refine okX_block_ret ?_
      refine okX_then_ret ?_
      obtain rfl := (smh h).symm
      exact okX_ret1 () Tryd.results75 rfl rfl
    · replace h := cf hb6 h
      refine okC_skip ?_
      refine okX_block_normal ?_
      refine okX_next ?_
      refine okC_seq ?_
      refine okC_region ?_
      refine okL_step 24 (tI a1) rfl rfl (does_move rfl) ?_
      refine okL_step 4 (tI a1) rfl rfl (does_assign rfl) ?_
      refine okL_nil ?_
      refine okX_next ?_
      refine okC_ret ?_
      obtain rfl := (smh h).symm
      exact okX_ret1 () Tryd.results75 rfl rfl

def ref32_SameInts_l1 (K : Nat) (a0 : (List Int)) (a1 : (List Int)) : Nat → Int → Option (Unit ⊕ Bool)
  | 0, _ => none
  | k + 1, s7 => (cnd (decide (s7 < ((a0).length : Int))) (Option.bind (idx a0 s7) (fun y10 => (Option.bind (idx a1 s7) (fun y12 => (cnd (y10 != y12) (out (some false)) (ref32_SameInts_l1 K a0 a1 k (w64 (s7 + 1)))))))) (inn ()))

def ref32_SameInts (K : Nat) (a0 : (List Int)) (a1 : (List Int)) : Option Bool :=
  (cnd (((a0).length : Int) != ((a1).length : Int)) (some false) (sq (ref32_SameInts_l1 K a0 a1 K 0) (fun s2 => (some true))))

theorem c_ref32_SameInts (K : Nat) (a0 : (List Int)) (a1 : (List Int)) (r : Bool) (h : ref32_SameInts K a0 a1 = some r) : CallP Tryd.prog glob 69 [(tL 1 lI a0), (tL 1 lI a1)] (tB r) := by
  refine call_of_code Tryd.func69 rfl Tryd.ntmps69 rfl (fun L w => ?_)
  change OkC _ _ _ [(0, (tL 1 lI a0)), (1, (tL 1 lI a1))] (L)
  unfold ref32_SameInts at h
  refine okC_seq ?_
  refine okC_region ?_
  refine okL_step 4 (tB false) rfl rfl (does_assign rfl) ?_
  refine okL_nil ?_
  refine okX_next ?_
  refine okC_seq ?_
  refine okC_seq ?_
  refine okC_region ?_
  refine okL_step 6 (tL 1 lI a0) rfl rfl (does_move rfl) ?_
  refine okL_step 7 (tI ((a0).length : Int)) rfl rfl (does_len (sz := 1) (f := lI) (l := a0) rfl Tryd.underlying31 rfl) ?_
  refine okL_step 8 (tL 1 lI a1) rfl rfl (does_move rfl) ?_
  refine okL_step 9 (tI ((a1).length : Int)) rfl rfl (does_len (sz := 1) (f := lI) (l := a1) rfl Tryd.underlying31 rfl) ?_
  refine okL_step 10 (tB (((a0).length : Int) != ((a1).length : Int))) rfl rfl (does_neq rfl rfl) ?_
  refine okL_nil ?_
  refine okX_next ?_
  refine okC_cond (b := (((a0).length : Int) != ((a1).length : Int))) rfl (fun hb1 => ?_) (fun hb1 => ?_)
  · replace h := ct hb1 h
    refine okC_seq ?_
    refine okC_region ?_
    refine okL_step 4 (tB false) rfl rfl (does_assign rfl) ?_
    refine okL_nil ?_
    refine okX_next ?_
    refine okC_ret ?_
    refine okX_then_ret ?_
    obtain rfl := (smh h).symm
    exact okX_ret1 () Tryd.results69 rfl rfl
  · replace h := cf hb1 h
    refine okC_skip ?_
    refine okX_next ?_
    refine okC_seq ?_
    refine okC_seq ?_
    refine okC_region ?_
    refine okL_step 5 (tI 0) rfl rfl (does_assign rfl) ?_
    refine okL_nil ?_
    refine okX_next ?_
    obtain ⟨z4, h6, hz5⟩ := sqs h
    refine okC_meetE (X := Unit) (fun x => z4 = .inl x) (fun x : Unit => []) (fun x : Unit => L) ?_ ?_
    · refine okC_block ?_
      refine okC_loop (X := Int) (fun k x => ref32_SameInts_l1 K a0 a1 k x = some z4) (fun x : Int => [(0, (tL 1 lI a0)), (1, (tL 1 lI a1)), (5, (tI x))]) (fun x : Int => L) K 0 h6 (cc rfl (cc rfl (cc rfl cn))) rfl (fun k s7 hI => ?_)
      change OkC _ _ _ [(0, (tL 1 lI a0)), (1, (tL 1 lI a1)), (5, (tI s7))] (L)
      cases k with
      | zero => exact (nz hI).elim
      | succ k =>
        have h : ref32_SameInts_l1 K a0 a1 (k + 1) s7 = some z4 := hI
        rw [ref32_SameInts_l1.eq_2] at h
        refine okC_seq ?_
        refine okC_seq ?_
        refine okC_region ?_
        refine okL_step 11 (tI s7) rfl rfl (does_move rfl) ?_
        refine okL_step 12 (tL 1 lI a0) rfl rfl (does_move rfl) ?_
        refine okL_step 13 (tI ((a0).length : Int)) rfl rfl (does_len (sz := 1) (f := lI) (l := a0) rfl Tryd.underlying31 rfl) ?_
        refine okL_step 14 (tB (decide (s7 < ((a0).length : Int)))) rfl rfl (does_lss rfl rfl) ?_
        refine okL_nil ?_
        refine okX_next ?_
        refine okC_cond (b := (decide (s7 < ((a0).length : Int)))) rfl (fun hb9 => ?_) (fun hb9 => ?_)
        · replace h := ct hb9 h
          refine okC_skip ?_
          refine okX_next ?_
          refine okC_seq ?_
          refine okC_block ?_
          refine okC_seq ?_
          refine okC_cov [(0, (tL 1 lI a0)), (1, (tL 1 lI a1)), (5, (tI s7))] (cc rfl (cc rfl (cc rfl cn))) ?_
          obtain ⟨y10, hi11, h⟩ := bs h
          obtain ⟨y12, hi13, h⟩ := bs h
          refine okC_draw 8 [some (17, (tL 1 lI a0)), some (18, (tI s7)), some (19, (Ty.ptr [(tI y10)])), some (20, (tI y10)), some (21, (tL 1 lI a1)), some (22, (tI s7)), some (23, (Ty.ptr [(tI y12)])), some (24, (tI y12))] ⟨([] : List Item), ([] : List Item), []⟩ [] mixed rfl rfl (by kernel_rfl) rfl (by kernel_rfl) rfl rfl rfl (fun _ h => nomatch h) (fun _ h => nomatch h) rfl (by kernel_rfl) (.inr ⟨by kernel_rfl, by kernel_rfl⟩) (by kernel_rfl) (by kernel_rfl) (dc (draw_plain rfl (does_move rfl)) (dc (draw_plain rfl (does_move rfl)) (dc (draw_plain rfl (does_index (sz := 1) (f := lI) (l := a0) (n := s7) y10 Tryd.underlying31 Tryd.sizeOf3 hi11 rfl rfl)) (dc (draw_plain rfl (does_load1 Tryd.isAgg3 rfl)) (dc (draw_plain rfl (does_move rfl)) (dc (draw_plain rfl (does_move rfl)) (dc (draw_plain rfl (does_index (sz := 1) (f := lI) (l := a1) (n := s7) y12 Tryd.underlying31 Tryd.sizeOf3 hi13 rfl rfl)) (dc (draw_plain rfl (does_load1 Tryd.isAgg3 rfl)) (dn))))))))) ?_
          refine ch_end ?_
          change OkL _ _ _ _ [(17, (tL 1 lI a0)), (18, (tI s7)), (19, (Ty.ptr [(tI y10)])), (20, (tI y10)), (21, (tL 1 lI a1)), (22, (tI s7)), (23, (Ty.ptr [(tI y12)])), (24, (tI y12)), (0, (tL 1 lI a0)), (1, (tL 1 lI a1)), (5, (tI s7))] (L)
          refine okL_step 25 (tB (y10 != y12)) rfl rfl (does_neq rfl rfl) ?_
          refine okL_nil ?_
          refine okX_next ?_
          refine okC_cond (b := (y10 != y12)) rfl (fun hb14 => ?_) (fun hb14 => ?_)
          · replace h := ct hb14 h
            refine okC_seq ?_
            refine okC_region ?_
            refine okL_step 4 (tB false) rfl rfl (does_assign rfl) ?_
            refine okL_nil ?_
            refine okX_next ?_
            refine okC_ret ?_
            refine okX_block_ret ?_
            refine okX_then_ret ?_
            refine okX_again_ret ?_
            refine okX_block_ret ?_
            refine okX_meet_ret ?_
            replace h := outh h hz5
            refine okX_then_ret ?_
            obtain rfl := (smh h).symm
            exact okX_ret1 () Tryd.results69 rfl rfl
          · replace h := cf hb14 h
            refine okC_skip ?_
            refine okX_block_normal ?_
            refine okX_next ?_
            refine okC_region ?_
            refine okL_step 15 (tI s7) rfl rfl (does_move rfl) ?_
            refine okL_step 16 (tI (w64 (s7 + 1))) rfl rfl (does_add rfl rfl) ?_
            refine okL_step 5 (tI (w64 (s7 + 1))) rfl rfl (does_assign rfl) ?_
            refine okL_nil ?_
            exact okX_again k (Nat.lt_succ_self k) (w64 (s7 + 1)) h (cc rfl (cc rfl (cc rfl cn))) rfl
        · replace h := cf hb9 h
          refine okC_exit ?_
          refine okX_then_exit ?_
          refine okX_again_exit ?_
          refine okX_block_hit ?_
          exact okX_meet (I := _) () (innh h) cn rfl
    · intro s2 hx
      change OkX _ _ _ [] (L)
      have hx : z4 = .inl s2 := hx
      subst hx
      replace h := hz5
      refine okX_next ?_
      refine okC_seq ?_
      refine okC_region ?_
      refine okL_step 4 (tB true) rfl rfl (does_assign rfl) ?_
      refine okL_nil ?_
      refine okX_next ?_
      refine okC_ret ?_
      obtain rfl := (smh h).symm
      exact okX_ret1 () Tryd.results69 rfl rfl

def ref32_SameLists_l1 (K : Nat) (a0 : (List (List Int))) (a1 : (List (List Int))) : Nat → Int → Option (Unit ⊕ Bool)
  | 0, _ => none
  | k + 1, s7 => (cnd (decide (s7 < ((a0).length : Int))) (Option.bind (idx a0 s7) (fun y10 => (Option.bind (idx a1 s7) (fun y12 => (Option.bind (ref32_SameInts K y10 y12) (fun r14 => (cnd (!r14) (out (some false)) (ref32_SameLists_l1 K a0 a1 k (w64 (s7 + 1)))))))))) (inn ()))

def ref32_SameLists (K : Nat) (a0 : (List (List Int))) (a1 : (List (List Int))) : Option Bool :=
  (cnd (((a0).length : Int) != ((a1).length : Int)) (some false) (sq (ref32_SameLists_l1 K a0 a1 K 0) (fun s2 => (some true))))

theorem c_ref32_SameLists (K : Nat) (a0 : (List (List Int))) (a1 : (List (List Int))) (r : Bool) (h : ref32_SameLists K a0 a1 = some r) : CallP Tryd.prog glob 25 [(tL 1 lIs a0), (tL 1 lIs a1)] (tB r) := by
  refine call_of_code Tryd.func25 rfl Tryd.ntmps25 rfl (fun L w => ?_)
  change OkC _ _ _ [(0, (tL 1 lIs a0)), (1, (tL 1 lIs a1))] (L)
  unfold ref32_SameLists at h
  refine okC_seq ?_
  refine okC_region ?_
  refine okL_step 4 (tB false) rfl rfl (does_assign rfl) ?_
  refine okL_nil ?_
  refine okX_next ?_
  refine okC_seq ?_
  refine okC_seq ?_
  refine okC_region ?_
  refine okL_step 6 (tL 1 lIs a0) rfl rfl (does_move rfl) ?_
  refine okL_step 7 (tI ((a0).length : Int)) rfl rfl (does_len (sz := 1) (f := lIs) (l := a0) rfl Tryd.underlying22 rfl) ?_
  refine okL_step 8 (tL 1 lIs a1) rfl rfl (does_move rfl) ?_
  refine okL_step 9 (tI ((a1).length : Int)) rfl rfl (does_len (sz := 1) (f := lIs) (l := a1) rfl Tryd.underlying22 rfl) ?_
  refine okL_step 10 (tB (((a0).length : Int) != ((a1).length : Int))) rfl rfl (does_neq rfl rfl) ?_
  refine okL_nil ?_
  refine okX_next ?_
  refine okC_cond (b := (((a0).length : Int) != ((a1).length : Int))) rfl (fun hb1 => ?_) (fun hb1 => ?_)
  · replace h := ct hb1 h
    refine okC_seq ?_
    refine okC_region ?_
    refine okL_step 4 (tB false) rfl rfl (does_assign rfl) ?_
    refine okL_nil ?_
    refine okX_next ?_
    refine okC_ret ?_
    refine okX_then_ret ?_
    obtain rfl := (smh h).symm
    exact okX_ret1 () Tryd.results25 rfl rfl
  · replace h := cf hb1 h
    refine okC_skip ?_
    refine okX_next ?_
    refine okC_seq ?_
    refine okC_seq ?_
    refine okC_region ?_
    refine okL_step 5 (tI 0) rfl rfl (does_assign rfl) ?_
    refine okL_nil ?_
    refine okX_next ?_
    obtain ⟨z4, h6, hz5⟩ := sqs h
    refine okC_meetE (X := Unit) (fun x => z4 = .inl x) (fun x : Unit => []) (fun x : Unit => L) ?_ ?_
    · refine okC_block ?_
      refine okC_loop (X := Int) (fun k x => ref32_SameLists_l1 K a0 a1 k x = some z4) (fun x : Int => [(0, (tL 1 lIs a0)), (1, (tL 1 lIs a1)), (5, (tI x))]) (fun x : Int => L) K 0 h6 (cc rfl (cc rfl (cc rfl cn))) rfl (fun k s7 hI => ?_)
      change OkC _ _ _ [(0, (tL 1 lIs a0)), (1, (tL 1 lIs a1)), (5, (tI s7))] (L)
      cases k with
      | zero => exact (nz hI).elim
      | succ k =>
        have h : ref32_SameLists_l1 K a0 a1 (k + 1) s7 = some z4 := hI
        rw [ref32_SameLists_l1.eq_2] at h
        refine okC_seq ?_
        refine okC_seq ?_
        refine okC_region ?_
        refine okL_step 11 (tI s7) rfl rfl (does_move rfl) ?_
        refine okL_step 12 (tL 1 lIs a0) rfl rfl (does_move rfl) ?_
        refine okL_step 13 (tI ((a0).length : Int)) rfl rfl (does_len (sz := 1) (f := lIs) (l := a0) rfl Tryd.underlying22 rfl) ?_
        refine okL_step 14 (tB (decide (s7 < ((a0).length : Int)))) rfl rfl (does_lss rfl rfl) ?_
        refine okL_nil ?_
        refine okX_next ?_
        refine okC_cond (b := (decide (s7 < ((a0).length : Int)))) rfl (fun hb9 => ?_) (fun hb9 => ?_)
        · replace h := ct hb9 h
          refine okC_skip ?_
          refine okX_next ?_
          refine okC_seq ?_
          refine okC_block ?_
          refine okC_seq ?_
          refine okC_cov [(0, (tL 1 lIs a0)), (1, (tL 1 lIs a1)), (5, (tI s7))] (cc rfl (cc rfl (cc rfl cn))) ?_
          obtain ⟨y10, hi11, h⟩ := bs h
          obtain ⟨y12, hi13, h⟩ := bs h
          refine okC_draw 8 [some (17, (tL 1 lIs a0)), some (18, (tI s7)), some (19, (Ty.ptr [(tL 1 lI y10)])), some (20, (tL 1 lI y10)), some (21, (tL 1 lIs a1)), some (22, (tI s7)), some (23, (Ty.ptr [(tL 1 lI y12)])), some (24, (tL 1 lI y12))] ⟨([] : List Item), ([] : List Item), []⟩ [] mixed rfl rfl (by kernel_rfl) rfl (by kernel_rfl) rfl rfl rfl (fun _ h => nomatch h) (fun _ h => nomatch h) rfl (by kernel_rfl) (.inr ⟨by kernel_rfl, by kernel_rfl⟩) (by kernel_rfl) (by kernel_rfl) (dc (draw_plain rfl (does_move rfl)) (dc (draw_plain rfl (does_move rfl)) (dc (draw_plain rfl (does_index (sz := 1) (f := lIs) (l := a0) (n := s7) y10 Tryd.underlying22 Tryd.sizeOf31 hi11 rfl rfl)) (dc (draw_plain rfl (does_load1 Tryd.isAgg31 rfl)) (dc (draw_plain rfl (does_move rfl)) (dc (draw_plain rfl (does_move rfl)) (dc (draw_plain rfl (does_index (sz := 1) (f := lIs) (l := a1) (n := s7) y12 Tryd.underlying22 Tryd.sizeOf31 hi13 rfl rfl)) (dc (draw_plain rfl (does_load1 Tryd.isAgg31 rfl)) (dn))))))))) ?_
          refine ch_end ?_
          change OkL _ _ _ _ [(17, (tL 1 lIs a0)), (18, (tI s7)), (19, (Ty.ptr [(tL 1 lI y10)])), (20, (tL 1 lI y10)), (21, (tL 1 lIs a1)), (22, (tI s7)), (23, (Ty.ptr [(tL 1 lI y12)])), (24, (tL 1 lI y12)), (0, (tL 1 lIs a0)), (1, (tL 1 lIs a1)), (5, (tI s7))] (L)
          obtain ⟨r14, hc15, h⟩ := bs h
          refine okL_step 25 (tB r14) rfl rfl (does_call0 (c_ref32_SameInts K y10 y12 r14 hc15) rfl Tryd.call69 rfl) ?_
          refine okL_step 26 (tB (!r14)) rfl rfl (does_not rfl) ?_
          refine okL_nil ?_
          refine okX_next ?_
          refine okC_cond (b := (!r14)) rfl (fun hb16 => ?_) (fun hb16 => ?_)
          · replace h := ct hb16 h
            refine okC_seq ?_
            refine okC_region ?_
            refine okL_step 4 (tB false) rfl rfl (does_assign rfl) ?_
            refine okL_nil ?_
            refine okX_next ?_
            refine okC_ret ?_
            refine okX_block_ret ?_
            refine okX_then_ret ?_
            refine okX_again_ret ?_
            refine okX_block_ret ?_
            refine okX_meet_ret ?_
            replace h := outh h hz5
            refine okX_then_ret ?_
            obtain rfl := (smh h).symm
            exact okX_ret1 () Tryd.results25 rfl rfl
          · replace h := cf hb16 h
            refine okC_skip ?_
            refine okX_block_normal ?_
            refine okX_next ?_
            refine okC_region ?_
            refine okL_step 15 (tI s7) rfl rfl (does_move rfl) ?_
            refine okL_step 16 (tI (w64 (s7 + 1))) rfl rfl (does_add rfl rfl) ?_
            refine okL_step 5 (tI (w64 (s7 + 1))) rfl rfl (does_assign rfl) ?_
            refine okL_nil ?_
            exact okX_again k (Nat.lt_succ_self k) (w64 (s7 + 1)) h (cc rfl (cc rfl (cc rfl cn))) rfl
        · replace h := cf hb9 h
          refine okC_exit ?_
          refine okX_then_exit ?_
          refine okX_again_exit ?_
          refine okX_block_hit ?_
          exact okX_meet (I := _) () (innh h) cn rfl
    · intro s2 hx
      change OkX _ _ _ [] (L)
      have hx : z4 = .inl s2 := hx
      subst hx
      replace h := hz5
      refine okX_next ?_
      refine okC_seq ?_
      refine okC_region ?_
      refine okL_step 4 (tB true) rfl rfl (does_assign rfl) ?_
      refine okL_nil ?_
      refine okX_next ?_
      refine okC_ret ?_
      obtain rfl := (smh h).symm
      exact okX_ret1 () Tryd.results25 rfl rfl

def ref29_Insert_l1 (K : Nat) (a0 : (List Int)) (a1 : Int) : Nat → Int → Option Int
  | 0, _ => none
  | k + 1, s6 => (Option.bind (cnd (decide (s6 < ((a0).length : Int))) (Option.bind (idx a0 s6) (fun y13 => (some (decide (y13 < a1))))) (some false)) (fun x12 => (cnd x12 (ref29_Insert_l1 K a0 a1 k (w64 (s6 + 1))) (some s6))))

def ref29_Insert (K : Nat) (a0 : (List Int)) (a1 : Int) : Option (List Int) :=
  (Option.bind (ref29_Insert_l1 K a0 a1 K 0) (fun s1 => (Option.bind (cnd (decide (s1 < ((a0).length : Int))) (Option.bind (idx a0 s1) (fun y21 => (some (y21 == a1)))) (some false)) (fun x20 => (cnd x20 (some a0) (Option.bind (subHi a0 s1) (fun l24 => (Option.bind (app 8 [] l24) (fun l26 => (Option.bind (app 8 l26 ([a1] : List Int)) (fun l29 => (Option.bind (subLo a0 s1) (fun l32 => (Option.bind (app 8 l29 l32) (fun l34 => (some l34))))))))))))))))

def liveness_empty  (a0 : Int) : Option (List Int) :=
  (Option.bind (mk 8 (w64 (Int.tdiv (w64 (a0 + 63)) 64)) 0) (fun l1 => (some l1)))

theorem c_liveness_empty  (a0 : Int) (r : (List Int)) (h : liveness_empty  a0 = some r) : CallOk Tryd.prog glob 70 [(tI a0)] [] Value (fun x : Value => ((Ty.own x), [rowL x 137 1 lU r])) := by
  refine call_of_code Tryd.func70 rfl Tryd.ntmps70 rfl (fun L w => ?_)
  change OkC _ _ _ [(0, (tI a0))] (L)
  unfold liveness_empty at h
  refine okC_seq ?_
  refine okC_region ?_
  refine okL_step 2 (Ty.val (.slice none 0 0)) rfl rfl (does_assign rfl) ?_
  refine okL_nil ?_
  refine okX_next ?_
  refine okC_seq ?_
  refine okC_region ?_
  refine okL_step 3 (tI a0) rfl rfl (does_move rfl) ?_
  refine okL_step 4 (tI (w64 (a0 + 63))) rfl rfl (does_add rfl rfl) ?_
  refine okL_step 5 (tI (w64 (Int.tdiv (w64 (a0 + 63)) 64))) rfl rfl (does_quo (by decide) rfl rfl) ?_
  obtain ⟨l1, hm2, h⟩ := bs h
  refine okL_stepO 6 rfl rfl (doesO_make (f := lU) el93 0 l1 hm2 rfl rfl (part_one (one_val rfl)) (fun v3 => ?_))
  refine okL_step 2 (Ty.own v3) rfl rfl (does_assign rfl) ?_
  refine okL_nil ?_
  refine okX_next ?_
  refine okC_ret ?_
  obtain rfl := (smh h).symm
  exact okX_ret1 v3 Tryd.results70 rfl rfl

def liveness_set_remove  (a0 : (List Int)) (a1 : Int) : Option (List Int) :=
  (Option.bind (idx a0 (w64 (Int.tdiv a1 64))) (fun y1 => (Option.bind (idx a0 (w64 (Int.tdiv a1 64))) (fun y3 => (some (a0.set (w64 (Int.tdiv a1 64)).toNat (bAndNot .u64 y1 (bShl .u64 1 (u64 (Int.tmod a1 64))))))))))

theorem c_liveness_set_remove  (a0 : (List Int)) (a1 : Int) (v0 : Value) (r : (List Int)) (h : liveness_set_remove  a0 a1 = some r) : CallOk Tryd.prog glob 71 [(Ty.own v0), (tI a1)] [rowL v0 137 1 lU a0] Unit (fun _ : Unit => ((Ty.tup []), [rowL v0 137 1 lU r])) := by
  refine call_of_code Tryd.func71 rfl Tryd.ntmps71 rfl (fun L w => ?_)
  change OkC _ _ _ [(0, (Ty.own v0)), (1, (tI a1))] (rowL v0 137 1 lU a0 :: L)
  unfold liveness_set_remove at h
  refine okC_region ?_
  refine okL_step 4 (Ty.own v0) rfl rfl (does_move rfl) ?_
  refine okL_step 5 (tI a1) rfl rfl (does_move rfl) ?_
  refine okL_step 6 (tI (w64 (Int.tdiv a1 64))) rfl rfl (does_quo (by decide) rfl rfl) ?_
  obtain ⟨y1, hi2, h⟩ := bs h
  refine okL_step 7 (Ty.rptr v0 ((w64 (Int.tdiv a1 64)).toNat * 1)) rfl rfl (does_indexR (f := lU) (l := a0) (m := (w64 (Int.tdiv a1 64))) el93 0 y1 hi2 rfl rfl rfl) ?_
  refine okL_step 8 (tK .u64 y1) rfl rfl (does_loadR1 (sz := 1) (f := lU) (l := a0) 0 y1 0 Tryd.isAgg137 hi2 rfl rfl rfl) ?_
  refine okL_step 9 (tI a1) rfl rfl (does_move rfl) ?_
  refine okL_step 10 (tI (Int.tmod a1 64)) rfl rfl (does_rem (by decide) rfl rfl) ?_
  refine okL_step 11 (tK .u64 (u64 (Int.tmod a1 64))) rfl rfl (does_convert Tryd.underlying3 Tryd.underlying138 rfl) ?_
  refine okL_step 12 (tK .u64 (bShl .u64 1 (u64 (Int.tmod a1 64)))) rfl rfl (does_shl (wrap_u64_nonneg _) rfl rfl) ?_
  refine okL_step 13 (tK .u64 (bAndNot .u64 y1 (bShl .u64 1 (u64 (Int.tmod a1 64))))) rfl rfl (does_andNot rfl rfl) ?_
  obtain ⟨y3, hi4, h⟩ := bs h
  refine okL_step 14 (Ty.rptr v0 ((w64 (Int.tdiv a1 64)).toNat * 1)) rfl rfl (does_indexR (f := lU) (l := a0) (m := (w64 (Int.tdiv a1 64))) el93 0 y3 hi4 rfl rfl rfl) ?_
  refine okL_stepU rfl (doesO_storeR (f := lU) (l := a0) (sz := 1) (ps := [(tK .u64 (bAndNot .u64 y1 (bShl .u64 1 (u64 (Int.tmod a1 64)))))]) (y0 := y3) (y1 := (bAndNot .u64 y1 (bShl .u64 1 (u64 (Int.tmod a1 64))))) (m := (w64 (Int.tdiv a1 64))) 0 0 (a0.set (w64 (Int.tdiv a1 64)).toNat (bAndNot .u64 y1 (bShl .u64 1 (u64 (Int.tmod a1 64))))) (rowL v0 137 1 lU (a0.set (w64 (Int.tdiv a1 64)).toNat (bAndNot .u64 y1 (bShl .u64 1 (u64 (Int.tmod a1 64))))) :: L) rfl rfl (part_one (one_val rfl)) Tryd.sizeOf137 rfl hi4 rfl rfl rfl rfl rfl ?_)
  refine okL_nil ?_
  obtain rfl := (smh h).symm
  exact okX_end0 () Tryd.results71 rfl rfl

def liveness_set_add  (a0 : (List Int)) (a1 : Int) : Option (List Int) :=
  (Option.bind (idx a0 (w64 (Int.tdiv a1 64))) (fun y1 => (Option.bind (idx a0 (w64 (Int.tdiv a1 64))) (fun y3 => (some (a0.set (w64 (Int.tdiv a1 64)).toNat (bOr .u64 y1 (bShl .u64 1 (u64 (Int.tmod a1 64))))))))))

theorem c_liveness_set_add  (a0 : (List Int)) (a1 : Int) (v0 : Value) (r : (List Int)) (h : liveness_set_add  a0 a1 = some r) : CallOk Tryd.prog glob 72 [(Ty.own v0), (tI a1)] [rowL v0 137 1 lU a0] Unit (fun _ : Unit => ((Ty.tup []), [rowL v0 137 1 lU r])) := by
  refine call_of_code Tryd.func72 rfl Tryd.ntmps72 rfl (fun L w => ?_)
  change OkC _ _ _ [(0, (Ty.own v0)), (1, (tI a1))] (rowL v0 137 1 lU a0 :: L)
  unfold liveness_set_add at h
  refine okC_region ?_
  refine okL_step 4 (Ty.own v0) rfl rfl (does_move rfl) ?_
  refine okL_step 5 (tI a1) rfl rfl (does_move rfl) ?_
  refine okL_step 6 (tI (w64 (Int.tdiv a1 64))) rfl rfl (does_quo (by decide) rfl rfl) ?_
  obtain ⟨y1, hi2, h⟩ := bs h
  refine okL_step 7 (Ty.rptr v0 ((w64 (Int.tdiv a1 64)).toNat * 1)) rfl rfl (does_indexR (f := lU) (l := a0) (m := (w64 (Int.tdiv a1 64))) el93 0 y1 hi2 rfl rfl rfl) ?_
  refine okL_step 8 (tK .u64 y1) rfl rfl (does_loadR1 (sz := 1) (f := lU) (l := a0) 0 y1 0 Tryd.isAgg137 hi2 rfl rfl rfl) ?_
  refine okL_step 9 (tI a1) rfl rfl (does_move rfl) ?_
  refine okL_step 10 (tI (Int.tmod a1 64)) rfl rfl (does_rem (by decide) rfl rfl) ?_
  refine okL_step 11 (tK .u64 (u64 (Int.tmod a1 64))) rfl rfl (does_convert Tryd.underlying3 Tryd.underlying138 rfl) ?_
  refine okL_step 12 (tK .u64 (bShl .u64 1 (u64 (Int.tmod a1 64)))) rfl rfl (does_shl (wrap_u64_nonneg _) rfl rfl) ?_
  refine okL_step 13 (tK .u64 (bOr .u64 y1 (bShl .u64 1 (u64 (Int.tmod a1 64))))) rfl rfl (does_or rfl rfl) ?_
  obtain ⟨y3, hi4, h⟩ := bs h
  refine okL_step 14 (Ty.rptr v0 ((w64 (Int.tdiv a1 64)).toNat * 1)) rfl rfl (does_indexR (f := lU) (l := a0) (m := (w64 (Int.tdiv a1 64))) el93 0 y3 hi4 rfl rfl rfl) ?_
  refine okL_stepU rfl (doesO_storeR (f := lU) (l := a0) (sz := 1) (ps := [(tK .u64 (bOr .u64 y1 (bShl .u64 1 (u64 (Int.tmod a1 64)))))]) (y0 := y3) (y1 := (bOr .u64 y1 (bShl .u64 1 (u64 (Int.tmod a1 64))))) (m := (w64 (Int.tdiv a1 64))) 0 0 (a0.set (w64 (Int.tdiv a1 64)).toNat (bOr .u64 y1 (bShl .u64 1 (u64 (Int.tmod a1 64))))) (rowL v0 137 1 lU (a0.set (w64 (Int.tdiv a1 64)).toNat (bOr .u64 y1 (bShl .u64 1 (u64 (Int.tmod a1 64))))) :: L) rfl rfl (part_one (one_val rfl)) Tryd.sizeOf137 rfl hi4 rfl rfl rfl rfl rfl ?_)
  refine okL_nil ?_
  obtain rfl := (smh h).symm
  exact okX_end0 () Tryd.results72 rfl rfl

def liveness_set_union_l1 (K : Nat) (a0 : (List Int)) (a1 : (List Int)) : Nat → (Bool × Int × (List Int)) → Option (Bool × (List Int))
  | 0, _ => none
  | k + 1, s6 => (cnd (decide (s6.2.1 < ((a0).length : Int))) (Option.bind (Option.bind (idx a1 s6.2.1) (fun y14 => (Option.bind (idx s6.2.2 s6.2.1) (fun y16 => (cnd ((bAndNot .u64 y14 y16) != 0) (Option.bind (idx s6.2.2 s6.2.1) (fun y19 => (Option.bind (idx a1 s6.2.1) (fun y21 => (Option.bind (idx s6.2.2 s6.2.1) (fun y23 => (some (true, (s6.2.2.set s6.2.1.toNat (bOr .u64 y19 y21)))))))))) (some (s6.1, s6.2.2))))))) (fun s9 => (liveness_set_union_l1 K a0 a1 k (s9.1, (w64 (s6.2.1 + 1)), s9.2)))) (some (s6.1, s6.2.2)))

def liveness_set_union (K : Nat) (a0 : (List Int)) (a1 : (List Int)) : Option (Bool × (List Int)) :=
  (Option.bind (liveness_set_union_l1 K a0 a1 K (false, 0, a0)) (fun s1 => (some (s1.1, s1.2))))

theorem c_liveness_set_union (K : Nat) (a0 : (List Int)) (a1 : (List Int)) (v0 : Value) (r : Bool × (List Int)) (h : liveness_set_union K a0 a1 = some r) : CallOk Tryd.prog glob 73 [(Ty.own v0), (tL 1 lU a1)] [rowL v0 137 1 lU a0] Unit (fun _ : Unit => ((tB r.1), [rowL v0 137 1 lU r.2])) := by
  refine call_of_code Tryd.func73 rfl Tryd.ntmps73 rfl (fun L w => ?_)
  change OkC _ _ _ [(0, (Ty.own v0)), (1, (tL 1 lU a1))] (rowL v0 137 1 lU a0 :: L)
  unfold liveness_set_union at h
  refine okC_seq ?_
  refine okC_region ?_
  refine okL_step 4 (tB false) rfl rfl (does_assign rfl) ?_
  refine okL_nil ?_
  refine okX_next ?_
  refine okC_seq ?_
  refine okC_region ?_
  refine okL_step 5 (tB false) rfl rfl (does_assign rfl) ?_
  refine okL_nil ?_
  refine okX_next ?_
  refine okC_seq ?_
  refine okC_seq ?_
  refine okC_region ?_
  refine okL_step 7 (Ty.own v0) rfl rfl (does_move rfl) ?_
  refine okL_step 8 (tI ((a0).length : Int)) rfl rfl (does_lenR rfl Tryd.underlying93 0 rfl rfl) ?_
  refine okL_step 9 (tI 0) rfl rfl (does_move rfl) ?_
  refine okL_nil ?_
  refine okX_next ?_
  obtain ⟨z3, h5, hz4⟩ := bs h
  refine okC_meetE (X := (Bool × (List Int))) (fun x => z3 = x) (fun x : (Bool × (List Int)) => [(5, (tB x.1))]) (fun x : (Bool × (List Int)) => rowL v0 137 1 lU x.2 :: L) ?_ ?_
  · refine okC_block ?_
    refine okC_loop (X := (Bool × Int × (List Int))) (fun k x => liveness_set_union_l1 K a0 a1 k x = some z3) (fun x : (Bool × Int × (List Int)) => [(0, (Ty.own v0)), (1, (tL 1 lU a1)), (5, (tB x.1)), (8, (tI ((a0).length : Int))), (9, (tI x.2.1))]) (fun x : (Bool × Int × (List Int)) => rowL v0 137 1 lU x.2.2 :: L) K (false, 0, a0) h5 (cc rfl (cc rfl (cc rfl (cc rfl (cc rfl cn))))) rfl (fun k s6 hI => ?_)
    change OkC _ _ _ [(0, (Ty.own v0)), (1, (tL 1 lU a1)), (5, (tB s6.1)), (8, (tI ((a0).length : Int))), (9, (tI s6.2.1))] (rowL v0 137 1 lU s6.2.2 :: L)
    cases k with
    | zero => exact (nz hI).elim
    | succ k =>
      have h : liveness_set_union_l1 K a0 a1 (k + 1) s6 = some z3 := hI
      rw [liveness_set_union_l1.eq_2] at h
      refine okC_seq ?_
      refine okC_region ?_
      refine okL_step 10 (tB (decide (s6.2.1 < ((a0).length : Int)))) rfl rfl (does_lss rfl rfl) ?_
      refine okL_nil ?_
      refine okX_next ?_
      refine okC_seq ?_
      refine okC_cond (b := (decide (s6.2.1 < ((a0).length : Int)))) rfl (fun hb8 => ?_) (fun hb8 => ?_)
      · replace h := ct hb8 h
        refine okC_skip ?_
        refine okX_next ?_
        obtain ⟨z11, h13, hz12⟩ := bs h
        refine okC_meet (X := (Bool × (List Int))) (fun x => z11 = x) (fun x : (Bool × (List Int)) => [(0, (Ty.own v0)), (1, (tL 1 lU a1)), (5, (tB x.1)), (8, (tI ((a0).length : Int))), (9, (tI s6.2.1))]) (fun x : (Bool × (List Int)) => rowL v0 137 1 lU x.2 :: L) ?_ ?_
        · refine okC_block ?_
          refine okC_seq ?_
          refine okC_region ?_
          refine okL_step 11 (tI s6.2.1) rfl rfl (does_move rfl) ?_
          refine okL_step 6 (tI s6.2.1) rfl rfl (does_assign rfl) ?_
          refine okL_nil ?_
          refine okX_next ?_
          refine okC_seq ?_
          refine okC_cov [(0, (Ty.own v0)), (1, (tL 1 lU a1)), (5, (tB s6.1)), (6, (tI s6.2.1)), (8, (tI ((a0).length : Int))), (9, (tI s6.2.1))] (cc rfl (cc rfl (cc rfl (cc rfl (cc rfl (cc rfl cn)))))) ?_
          obtain ⟨y14, hi15, h13⟩ := bs h13
          obtain ⟨y16, hi17, h13⟩ := bs h13
          refine okC_draw 8 [some (12, (tL 1 lU a1)), some (13, (tI s6.2.1)), some (14, (Ty.ptr [(tK .u64 y14)])), some (15, (tK .u64 y14)), some (16, (Ty.own v0)), some (17, (tI s6.2.1)), some (18, (Ty.rptr v0 (s6.2.1.toNat * 1))), some (19, (tK .u64 y16))] ⟨rowL v0 137 1 lU s6.2.2 :: ([] : List Item), rowL v0 137 1 lU s6.2.2 :: ([] : List Item), []⟩ [] mixed rfl rfl (by kernel_rfl) rfl (by kernel_rfl) rfl rfl rfl (fun _ h => List.Sublist.subset (.cons_cons _ (List.nil_sublist _)) h) (fun _ h => List.Sublist.subset (.cons_cons _ (List.nil_sublist _)) h) rfl (by kernel_rfl) (.inr ⟨by kernel_rfl, by kernel_rfl⟩) (by kernel_rfl) (by kernel_rfl) (dc (draw_plain rfl (does_move rfl)) (dc (draw_plain rfl (does_move rfl)) (dc (draw_plain rfl (does_index (sz := 1) (f := lU) (l := a1) (n := s6.2.1) y14 Tryd.underlying93 Tryd.sizeOf137 hi15 rfl rfl)) (dc (draw_plain rfl (does_load1 Tryd.isAgg137 rfl)) (dc (draw_plain rfl (does_move rfl)) (dc (draw_plain rfl (does_move rfl)) (dc (draw_plain rfl (does_indexR (f := lU) (l := s6.2.2) (m := s6.2.1) el93 0 y16 hi17 rfl rfl rfl)) (dc (draw_plain rfl (does_loadR1 (sz := 1) (f := lU) (l := s6.2.2) 0 y16 0 Tryd.isAgg137 hi17 rfl rfl rfl)) (dn))))))))) ?_
          refine ch_end ?_
          change OkL _ _ _ _ [(12, (tL 1 lU a1)), (13, (tI s6.2.1)), (14, (Ty.ptr [(tK .u64 y14)])), (15, (tK .u64 y14)), (16, (Ty.own v0)), (17, (tI s6.2.1)), (18, (Ty.rptr v0 (s6.2.1.toNat * 1))), (19, (tK .u64 y16)), (0, (Ty.own v0)), (1, (tL 1 lU a1)), (5, (tB s6.1)), (6, (tI s6.2.1)), (8, (tI ((a0).length : Int))), (9, (tI s6.2.1))] (rowL v0 137 1 lU s6.2.2 :: L)
          refine okL_step 20 (tK .u64 (bAndNot .u64 y14 y16)) rfl rfl (does_andNot rfl rfl) ?_
          refine okL_step 21 (tB ((bAndNot .u64 y14 y16) != 0)) rfl rfl (does_neq rfl rfl) ?_
          refine okL_nil ?_
          refine okX_next ?_
          refine okC_cond (b := ((bAndNot .u64 y14 y16) != 0)) rfl (fun hb18 => ?_) (fun hb18 => ?_)
          · replace h13 := ct hb18 h13
            refine okC_seq ?_
            refine okC_region ?_
            refine okL_step 5 (tB true) rfl rfl (does_assign rfl) ?_
            refine okL_nil ?_
            refine okX_next ?_
            refine okC_cov [(0, (Ty.own v0)), (1, (tL 1 lU a1)), (5, (tB true)), (6, (tI s6.2.1)), (8, (tI ((a0).length : Int))), (9, (tI s6.2.1))] (cc rfl (cc rfl (cc rfl (cc rfl (cc rfl (cc rfl cn)))))) ?_
            obtain ⟨y19, hi20, h13⟩ := bs h13
            obtain ⟨y21, hi22, h13⟩ := bs h13
            refine okC_draw 8 [some (22, (Ty.own v0)), some (23, (tI s6.2.1)), some (24, (Ty.rptr v0 (s6.2.1.toNat * 1))), some (25, (tK .u64 y19)), some (26, (tL 1 lU a1)), some (27, (tI s6.2.1)), some (28, (Ty.ptr [(tK .u64 y21)])), some (29, (tK .u64 y21))] ⟨rowL v0 137 1 lU s6.2.2 :: ([] : List Item), rowL v0 137 1 lU s6.2.2 :: ([] : List Item), []⟩ [] mixed rfl rfl (by kernel_rfl) rfl (by kernel_rfl) rfl rfl rfl (fun _ h => List.Sublist.subset (.cons_cons _ (List.nil_sublist _)) h) (fun _ h => List.Sublist.subset (.cons_cons _ (List.nil_sublist _)) h) rfl (by kernel_rfl) (.inr ⟨by kernel_rfl, by kernel_rfl⟩) (by kernel_rfl) (by kernel_rfl) (dc (draw_plain rfl (does_move rfl)) (dc (draw_plain rfl (does_move rfl)) (dc (draw_plain rfl (does_indexR (f := lU) (l := s6.2.2) (m := s6.2.1) el93 0 y19 hi20 rfl rfl rfl)) (dc (draw_plain rfl (does_loadR1 (sz := 1) (f := lU) (l := s6.2.2) 0 y19 0 Tryd.isAgg137 hi20 rfl rfl rfl)) (dc (draw_plain rfl (does_move rfl)) (dc (draw_plain rfl (does_move rfl)) (dc (draw_plain rfl (does_index (sz := 1) (f := lU) (l := a1) (n := s6.2.1) y21 Tryd.underlying93 Tryd.sizeOf137 hi22 rfl rfl)) (dc (draw_plain rfl (does_load1 Tryd.isAgg137 rfl)) (dn))))))))) ?_
            refine ch_end ?_
            change OkL _ _ _ _ [(22, (Ty.own v0)), (23, (tI s6.2.1)), (24, (Ty.rptr v0 (s6.2.1.toNat * 1))), (25, (tK .u64 y19)), (26, (tL 1 lU a1)), (27, (tI s6.2.1)), (28, (Ty.ptr [(tK .u64 y21)])), (29, (tK .u64 y21)), (0, (Ty.own v0)), (1, (tL 1 lU a1)), (5, (tB true)), (6, (tI s6.2.1)), (8, (tI ((a0).length : Int))), (9, (tI s6.2.1))] (rowL v0 137 1 lU s6.2.2 :: L)
            refine okL_step 30 (tK .u64 (bOr .u64 y19 y21)) rfl rfl (does_or rfl rfl) ?_
            obtain ⟨y23, hi24, h13⟩ := bs h13
            refine okL_step 31 (Ty.rptr v0 (s6.2.1.toNat * 1)) rfl rfl (does_indexR (f := lU) (l := s6.2.2) (m := s6.2.1) el93 0 y23 hi24 rfl rfl rfl) ?_
            refine okL_stepU rfl (doesO_storeR (f := lU) (l := s6.2.2) (sz := 1) (ps := [(tK .u64 (bOr .u64 y19 y21))]) (y0 := y23) (y1 := (bOr .u64 y19 y21)) (m := s6.2.1) 0 0 (s6.2.2.set s6.2.1.toNat (bOr .u64 y19 y21)) (rowL v0 137 1 lU (s6.2.2.set s6.2.1.toNat (bOr .u64 y19 y21)) :: L) rfl rfl (part_one (one_val rfl)) Tryd.sizeOf137 rfl hi24 rfl rfl rfl rfl rfl ?_)
            refine okL_nil ?_
            refine okX_block_normal ?_
            exact okX_meet (I := _) (true, (s6.2.2.set s6.2.1.toNat (bOr .u64 y19 y21))) (smh h13) (cc rfl (cc rfl (cc rfl (cc rfl (cc rfl cn))))) rfl
          · replace h13 := cf hb18 h13
            refine okC_skip ?_
            refine okX_block_normal ?_
            exact okX_meet (I := _) (s6.1, s6.2.2) (smh h13) (cc rfl (cc rfl (cc rfl (cc rfl (cc rfl cn))))) rfl
        · intro s9 hx
          change OkC _ _ _ [(0, (Ty.own v0)), (1, (tL 1 lU a1)), (5, (tB s9.1)), (8, (tI ((a0).length : Int))), (9, (tI s6.2.1))] (rowL v0 137 1 lU s9.2 :: L)
          obtain rfl : s9 = z11 := hx.symm
          replace h := hz12
          refine okC_region ?_
          refine okL_step 32 (tI (w64 (s6.2.1 + 1))) rfl rfl (does_add rfl rfl) ?_
          refine okL_step 9 (tI (w64 (s6.2.1 + 1))) rfl rfl (does_move rfl) ?_
          refine okL_nil ?_
          exact okX_again k (Nat.lt_succ_self k) (s9.1, (w64 (s6.2.1 + 1)), s9.2) h (cc rfl (cc rfl (cc rfl (cc rfl (cc rfl cn))))) rfl
      · replace h := cf hb8 h
        refine okC_exit ?_
        refine okX_then_exit ?_
        refine okX_again_exit ?_
        refine okX_block_hit ?_
        exact okX_meet (I := _) (s6.1, s6.2.2) (smh h) (cc rfl cn) rfl
  · intro s1 hx
    change OkX _ _ _ [(5, (tB s1.1))] (rowL v0 137 1 lU s1.2 :: L)
    obtain rfl : s1 = z3 := hx.symm
    replace h := hz4
    refine okX_next ?_
    refine okC_seq ?_
    refine okC_region ?_
    refine okL_step 33 (tB s1.1) rfl rfl (does_move rfl) ?_
    refine okL_step 4 (tB s1.1) rfl rfl (does_assign rfl) ?_
    refine okL_nil ?_
    refine okX_next ?_
    refine okC_ret ?_
    obtain rfl := (smh h).symm
    exact okX_ret1 () Tryd.results73 rfl rfl

def keep2_Digits_Next  (a0 : Fullingkeep2Digits) (a1 : Int) : Option (Int × Fullingkeep2Digits) :=
  (Option.bind (keep_Pick a0.N a1) (fun r1 => (guardO (a1 != 0) (some (r1, (⟨(w64 (Int.tdiv (w64 (a0.N - r1)) a1))⟩ : Fullingkeep2Digits))))))

theorem c_keep2_Digits_Next  (a0 : Fullingkeep2Digits) (a1 : Int) (g0 : Nat) (r : Int × Fullingkeep2Digits) (h : keep2_Digits_Next  a0 a1 = some r) : CallOk Tryd.prog glob 74 [(pAt g0 0), (tI a1)] [Item.blk g0 103 [(tI a0.N)]] Unit (fun _ : Unit => ((tI r.1), [Item.blk g0 103 [(tI r.2.N)]])) := by
  refine call_of_code Tryd.func74 rfl Tryd.ntmps74 rfl (fun L w => ?_)
  change OkC _ _ _ [(0, (pAt g0 0)), (1, (tI a1))] (Item.blk g0 103 [(tI a0.N)] :: L)
  unfold keep2_Digits_Next at h
  refine okC_seq ?_
  refine okC_region ?_
  refine okL_step 4 (tI 0) rfl rfl (does_assign rfl) ?_
  refine okL_nil ?_
  refine okX_next ?_
  refine okC_seq ?_
  refine okC_region ?_
  refine okL_step 6 (pAt g0 0) rfl rfl (does_move rfl) ?_
  refine okL_step 7 (pAt g0 0) rfl rfl (does_nilCheck rfl) ?_
  refine okL_step 8 (pAt g0 0) rfl rfl (does_fieldAddrP 0 Tryd.underlying103 rfl Tryd.sizeOf3 rfl rfl) ?_
  refine okL_step 9 (tI a0.N) rfl rfl (does_loadB1 Tryd.isAgg3 rfl 0 rfl rfl) ?_
  refine okL_step 10 (tI a1) rfl rfl (does_move rfl) ?_
  obtain ⟨r1, hc2, h⟩ := bs h
  refine okL_step 11 (tI r1) rfl rfl (does_call0 (c_keep_Pick a0.N a1 r1 hc2) rfl Tryd.call29 rfl) ?_
  refine okL_step 5 (tI r1) rfl rfl (does_assign rfl) ?_
  refine okL_nil ?_
  refine okX_next ?_
  refine okC_seq ?_
  refine okC_region ?_
  refine okL_step 12 (pAt g0 0) rfl rfl (does_move rfl) ?_
  refine okL_step 13 (pAt g0 0) rfl rfl (does_move rfl) ?_
  refine okL_step 14 (pAt g0 0) rfl rfl (does_nilCheck rfl) ?_
  refine okL_step 15 (pAt g0 0) rfl rfl (does_fieldAddrP 0 Tryd.underlying103 rfl Tryd.sizeOf3 rfl rfl) ?_
  refine okL_step 16 (tI a0.N) rfl rfl (does_loadB1 Tryd.isAgg3 rfl 0 rfl rfl) ?_
  refine okL_step 17 (tI r1) rfl rfl (does_move rfl) ?_
  refine okL_step 18 (tI (w64 (a0.N - r1))) rfl rfl (does_sub rfl rfl) ?_
  refine okL_step 19 (tI a1) rfl rfl (does_move rfl) ?_
  obtain ⟨hg3, h⟩ := gs h
  refine okL_step 20 (tI (w64 (Int.tdiv (w64 (a0.N - r1)) a1))) rfl rfl (does_quo (ne0 hg3) rfl rfl) ?_
  refine okL_step 21 (pAt g0 0) rfl rfl (does_nilCheck rfl) ?_
  refine okL_step 22 (pAt g0 0) rfl rfl (does_fieldAddrP 0 Tryd.underlying103 rfl Tryd.sizeOf3 rfl rfl) ?_
  refine okL_stepU rfl (doesO_storeB (ps := [(tI (w64 (Int.tdiv (w64 (a0.N - r1)) a1)))]) 0 [(tI (w64 (Int.tdiv (w64 (a0.N - r1)) a1)))] (Item.blk g0 103 [(tI (w64 (Int.tdiv (w64 (a0.N - r1)) a1)))] :: L) rfl rfl (part_one (one_i _)) Tryd.sizeOf3 rfl rfl rfl rfl ?_)
  refine okL_nil ?_
  refine okX_next ?_
  refine okC_seq ?_
  refine okC_region ?_
  refine okL_step 23 (tI r1) rfl rfl (does_move rfl) ?_
  refine okL_step 4 (tI r1) rfl rfl (does_assign rfl) ?_
  refine okL_nil ?_
  refine okX_next ?_
  refine okC_ret ?_
  obtain rfl := (smh h).symm
  exact okX_ret1 () Tryd.results74 rfl rfl

def vcode_Valid_1  (a0 : Int) (a1 : VFunc) : Option Bool :=
  (some ((decide (a0 ≥ 0)) && (decide (a0 < ((a1.Blocks).length : Int)))))

theorem c_vcode_Valid_1  (a0 : Int) (a1 : VFunc) (g1 : Nat) (r : Bool) (h : vcode_Valid_1  a0 a1 = some r) : CallOk Tryd.prog glob 101 [(tI a0), (pAt g1 0)] [Item.blk g1 27 [(tI a1.Params), (tI a1.Regs), (tL 5 Block.ty a1.Blocks)]] Unit (fun _ : Unit => ((tB r), [Item.blk g1 27 [(tI a1.Params), (tI a1.Regs), (tL 5 Block.ty a1.Blocks)]])) := by
  refine call_of_code Tryd.func101 rfl Tryd.ntmps101 rfl (fun L w => ?_)
  change OkC _ _ _ [(0, (tI a0)), (1, (pAt g1 0))] (Item.blk g1 27 [(tI a1.Params), (tI a1.Regs), (tL 5 Block.ty a1.Blocks)] :: L)
  unfold vcode_Valid_1 at h
  refine okC_seq ?_
  refine okC_region ?_
  refine okL_step 3 (tB false) rfl rfl (does_assign rfl) ?_
  refine okL_nil ?_
  refine okX_next ?_
  refine okC_seq ?_
  refine okC_region ?_
  refine okL_step 4 (tI a0) rfl rfl (does_move rfl) ?_
  refine okL_step 5 (tB (decide (a0 ≥ 0))) rfl rfl (does_geq rfl rfl) ?_
  refine okL_step 6 (tB (decide (a0 ≥ 0))) rfl rfl (does_move rfl) ?_
  refine okL_meet (X := Bool) 6 (fun x => x = ((decide (a0 ≥ 0)) && (decide (a0 < ((a1.Blocks).length : Int))))) (fun x : Bool => [(3, (tB false)), (12, (tB x))]) (fun x : Bool => Item.blk g1 27 [(tI a1.Params), (tI a1.Regs), (tL 5 Block.ty a1.Blocks)] :: L) _ rfl ?_ ?_
  · refine okL_split (decide (a0 ≥ 0)) (fun hb1 => ?_) (fun hb1 => ?_)
    · refine okL_guard 7 (tI a0) 6 (decide (a0 ≥ 0)) rfl rfl hb1 rfl rfl (does_move rfl) ?_
      refine okL_guard 8 (pAt g1 2) 6 (decide (a0 ≥ 0)) rfl rfl hb1 rfl rfl (does_fieldAddrP 2 Tryd.underlying27 rfl Tryd.sizeOf25 rfl rfl) ?_
      refine okL_guard 9 (tL 5 Block.ty a1.Blocks) 6 (decide (a0 ≥ 0)) rfl rfl hb1 rfl rfl (does_loadB1 Tryd.isAgg25 rfl 0 rfl rfl) ?_
      refine okL_guard 10 (tI ((a1.Blocks).length : Int)) 6 (decide (a0 ≥ 0)) rfl rfl hb1 rfl rfl (does_len (sz := 5) (f := Block.ty) (l := a1.Blocks) rfl Tryd.underlying25 rfl) ?_
      refine okL_guard 11 (tB (decide (a0 < ((a1.Blocks).length : Int)))) 6 (decide (a0 ≥ 0)) rfl rfl hb1 rfl rfl (does_lss rfl rfl) ?_
      refine okL_step 12 (tB (decide (a0 < ((a1.Blocks).length : Int)))) rfl rfl (does_pick_t (decide (a0 ≥ 0)) rfl hb1 rfl) ?_
      refine okL_nil ?_
      exact okX_meet (I := _) (decide (a0 < ((a1.Blocks).length : Int))) (and_t hb1) (cc rfl (cc rfl cn)) rfl
    · refine okL_skip 7 6 (decide (a0 ≥ 0)) rfl rfl hb1 rfl rfl ?_
      refine okL_skip 8 6 (decide (a0 ≥ 0)) rfl rfl hb1 rfl rfl ?_
      refine okL_skip 9 6 (decide (a0 ≥ 0)) rfl rfl hb1 rfl rfl ?_
      refine okL_skip 10 6 (decide (a0 ≥ 0)) rfl rfl hb1 rfl rfl ?_
      refine okL_skip 11 6 (decide (a0 ≥ 0)) rfl rfl hb1 rfl rfl ?_
      refine okL_step 12 (tB false) rfl rfl (does_pick_f (decide (a0 ≥ 0)) rfl hb1 rfl) ?_
      refine okL_nil ?_
      exact okX_meet (I := _) false (and_f hb1) (cc rfl (cc rfl cn)) rfl
  · intro x2 hx
    subst hx
    change OkL _ _ _ _ [(3, (tB false)), (12, (tB ((decide (a0 ≥ 0)) && (decide (a0 < ((a1.Blocks).length : Int))))))] (Item.blk g1 27 [(tI a1.Params), (tI a1.Regs), (tL 5 Block.ty a1.Blocks)] :: L)
    refine okL_step 3 (tB ((decide (a0 ≥ 0)) && (decide (a0 < ((a1.Blocks).length : Int))))) rfl rfl (does_assign rfl) ?_
    refine okL_nil ?_
    refine okX_next ?_
    refine okC_ret ?_
    obtain rfl := (smh h).symm
    exact okX_ret1 () Tryd.results101 rfl rfl

def vcode_Valid_2  (a0 : Int) (a1 : VFunc) : Option Bool :=
  (some ((decide (a0 ≥ 0)) && (decide (a0 < a1.Regs))))

theorem c_vcode_Valid_2  (a0 : Int) (a1 : VFunc) (g1 : Nat) (r : Bool) (h : vcode_Valid_2  a0 a1 = some r) : CallOk Tryd.prog glob 102 [(tI a0), (pAt g1 0)] [Item.blk g1 27 [(tI a1.Params), (tI a1.Regs), (tL 5 Block.ty a1.Blocks)]] Unit (fun _ : Unit => ((tB r), [Item.blk g1 27 [(tI a1.Params), (tI a1.Regs), (tL 5 Block.ty a1.Blocks)]])) := by
  refine call_of_code Tryd.func102 rfl Tryd.ntmps102 rfl (fun L w => ?_)
  change OkC _ _ _ [(0, (tI a0)), (1, (pAt g1 0))] (Item.blk g1 27 [(tI a1.Params), (tI a1.Regs), (tL 5 Block.ty a1.Blocks)] :: L)
  unfold vcode_Valid_2 at h
  refine okC_seq ?_
  refine okC_region ?_
  refine okL_step 3 (tB false) rfl rfl (does_assign rfl) ?_
  refine okL_nil ?_
  refine okX_next ?_
  refine okC_seq ?_
  refine okC_region ?_
  refine okL_step 4 (tI a0) rfl rfl (does_move rfl) ?_
  refine okL_step 5 (tB (decide (a0 ≥ 0))) rfl rfl (does_geq rfl rfl) ?_
  refine okL_step 6 (tB (decide (a0 ≥ 0))) rfl rfl (does_move rfl) ?_
  refine okL_meet (X := Bool) 5 (fun x => x = ((decide (a0 ≥ 0)) && (decide (a0 < a1.Regs)))) (fun x : Bool => [(3, (tB false)), (11, (tB x))]) (fun x : Bool => Item.blk g1 27 [(tI a1.Params), (tI a1.Regs), (tL 5 Block.ty a1.Blocks)] :: L) _ rfl ?_ ?_
  · refine okL_split (decide (a0 ≥ 0)) (fun hb1 => ?_) (fun hb1 => ?_)
    · refine okL_guard 7 (tI a0) 6 (decide (a0 ≥ 0)) rfl rfl hb1 rfl rfl (does_move rfl) ?_
      refine okL_guard 8 (pAt g1 1) 6 (decide (a0 ≥ 0)) rfl rfl hb1 rfl rfl (does_fieldAddrP 1 Tryd.underlying27 rfl Tryd.sizeOf3 rfl rfl) ?_
      refine okL_guard 9 (tI a1.Regs) 6 (decide (a0 ≥ 0)) rfl rfl hb1 rfl rfl (does_loadB1 Tryd.isAgg3 rfl 0 rfl rfl) ?_
      refine okL_guard 10 (tB (decide (a0 < a1.Regs))) 6 (decide (a0 ≥ 0)) rfl rfl hb1 rfl rfl (does_lss rfl rfl) ?_
      refine okL_step 11 (tB (decide (a0 < a1.Regs))) rfl rfl (does_pick_t (decide (a0 ≥ 0)) rfl hb1 rfl) ?_
      refine okL_nil ?_
      exact okX_meet (I := _) (decide (a0 < a1.Regs)) (and_t hb1) (cc rfl (cc rfl cn)) rfl
    · refine okL_skip 7 6 (decide (a0 ≥ 0)) rfl rfl hb1 rfl rfl ?_
      refine okL_skip 8 6 (decide (a0 ≥ 0)) rfl rfl hb1 rfl rfl ?_
      refine okL_skip 9 6 (decide (a0 ≥ 0)) rfl rfl hb1 rfl rfl ?_
      refine okL_skip 10 6 (decide (a0 ≥ 0)) rfl rfl hb1 rfl rfl ?_
      refine okL_step 11 (tB false) rfl rfl (does_pick_f (decide (a0 ≥ 0)) rfl hb1 rfl) ?_
      refine okL_nil ?_
      exact okX_meet (I := _) false (and_f hb1) (cc rfl (cc rfl cn)) rfl
  · intro x2 hx
    subst hx
    change OkL _ _ _ _ [(3, (tB false)), (11, (tB ((decide (a0 ≥ 0)) && (decide (a0 < a1.Regs)))))] (Item.blk g1 27 [(tI a1.Params), (tI a1.Regs), (tL 5 Block.ty a1.Blocks)] :: L)
    refine okL_step 3 (tB ((decide (a0 ≥ 0)) && (decide (a0 < a1.Regs)))) rfl rfl (does_assign rfl) ?_
    refine okL_nil ?_
    refine okX_next ?_
    refine okC_ret ?_
    obtain rfl := (smh h).symm
    exact okX_ret1 () Tryd.results102 rfl rfl

def vcode_validInstr_1  (a0 : Int) (a1 : VFunc) : Option Bool :=
  (some ((decide (a0 ≥ 0)) && (decide (a0 < a1.Regs))))

theorem c_vcode_validInstr_1  (a0 : Int) (a1 : VFunc) (g1 : Nat) (r : Bool) (h : vcode_validInstr_1  a0 a1 = some r) : CallOk Tryd.prog glob 126 [(tI a0), (pAt g1 0)] [Item.blk g1 27 [(tI a1.Params), (tI a1.Regs), (tL 5 Block.ty a1.Blocks)]] Unit (fun _ : Unit => ((tB r), [Item.blk g1 27 [(tI a1.Params), (tI a1.Regs), (tL 5 Block.ty a1.Blocks)]])) := by
  refine call_of_code Tryd.func126 rfl Tryd.ntmps126 rfl (fun L w => ?_)
  change OkC _ _ _ [(0, (tI a0)), (1, (pAt g1 0))] (Item.blk g1 27 [(tI a1.Params), (tI a1.Regs), (tL 5 Block.ty a1.Blocks)] :: L)
  unfold vcode_validInstr_1 at h
  refine okC_seq ?_
  refine okC_region ?_
  refine okL_step 3 (tB false) rfl rfl (does_assign rfl) ?_
  refine okL_nil ?_
  refine okX_next ?_
  refine okC_seq ?_
  refine okC_region ?_
  refine okL_step 4 (tI a0) rfl rfl (does_move rfl) ?_
  refine okL_step 5 (tB (decide (a0 ≥ 0))) rfl rfl (does_geq rfl rfl) ?_
  refine okL_step 6 (tB (decide (a0 ≥ 0))) rfl rfl (does_move rfl) ?_
  refine okL_meet (X := Bool) 5 (fun x => x = ((decide (a0 ≥ 0)) && (decide (a0 < a1.Regs)))) (fun x : Bool => [(3, (tB false)), (11, (tB x))]) (fun x : Bool => Item.blk g1 27 [(tI a1.Params), (tI a1.Regs), (tL 5 Block.ty a1.Blocks)] :: L) _ rfl ?_ ?_
  · refine okL_split (decide (a0 ≥ 0)) (fun hb1 => ?_) (fun hb1 => ?_)
    · refine okL_guard 7 (tI a0) 6 (decide (a0 ≥ 0)) rfl rfl hb1 rfl rfl (does_move rfl) ?_
      refine okL_guard 8 (pAt g1 1) 6 (decide (a0 ≥ 0)) rfl rfl hb1 rfl rfl (does_fieldAddrP 1 Tryd.underlying27 rfl Tryd.sizeOf3 rfl rfl) ?_
      refine okL_guard 9 (tI a1.Regs) 6 (decide (a0 ≥ 0)) rfl rfl hb1 rfl rfl (does_loadB1 Tryd.isAgg3 rfl 0 rfl rfl) ?_
      refine okL_guard 10 (tB (decide (a0 < a1.Regs))) 6 (decide (a0 ≥ 0)) rfl rfl hb1 rfl rfl (does_lss rfl rfl) ?_
      refine okL_step 11 (tB (decide (a0 < a1.Regs))) rfl rfl (does_pick_t (decide (a0 ≥ 0)) rfl hb1 rfl) ?_
      refine okL_nil ?_
      exact okX_meet (I := _) (decide (a0 < a1.Regs)) (and_t hb1) (cc rfl (cc rfl cn)) rfl
    · refine okL_skip 7 6 (decide (a0 ≥ 0)) rfl rfl hb1 rfl rfl ?_
      refine okL_skip 8 6 (decide (a0 ≥ 0)) rfl rfl hb1 rfl rfl ?_
      refine okL_skip 9 6 (decide (a0 ≥ 0)) rfl rfl hb1 rfl rfl ?_
      refine okL_skip 10 6 (decide (a0 ≥ 0)) rfl rfl hb1 rfl rfl ?_
      refine okL_step 11 (tB false) rfl rfl (does_pick_f (decide (a0 ≥ 0)) rfl hb1 rfl) ?_
      refine okL_nil ?_
      exact okX_meet (I := _) false (and_f hb1) (cc rfl (cc rfl cn)) rfl
  · intro x2 hx
    subst hx
    change OkL _ _ _ _ [(3, (tB false)), (11, (tB ((decide (a0 ≥ 0)) && (decide (a0 < a1.Regs)))))] (Item.blk g1 27 [(tI a1.Params), (tI a1.Regs), (tL 5 Block.ty a1.Blocks)] :: L)
    refine okL_step 3 (tB ((decide (a0 ≥ 0)) && (decide (a0 < a1.Regs)))) rfl rfl (does_assign rfl) ?_
    refine okL_nil ?_
    refine okX_next ?_
    refine okC_ret ?_
    obtain rfl := (smh h).symm
    exact okX_ret1 () Tryd.results126 rfl rfl

def vcode_allowed  (a0 : Int) : Option Bool :=
  (Option.bind (cnd (a0 == 3) (some (a0 == 3)) (cnd (a0 == 6) (some (a0 == 6)) (cnd (a0 == 9) (some (a0 == 9)) (cnd (a0 == 10) (some (a0 == 10)) (cnd (a0 == 11) (some (a0 == 11)) (cnd (a0 == 12) (some (a0 == 12)) (cnd (a0 == 13) (some (a0 == 13)) (cnd (a0 == 33) (some (a0 == 33)) (cnd (a0 == 34) (some (a0 == 34)) (cnd (a0 == 35) (some (a0 == 35)) (some (a0 == 38)))))))))))) (fun s1 => (cnd s1 (some true) (some ((decide (a0 ≥ 15)) && (decide (a0 ≤ 32)))))))

theorem c_vcode_allowed  (a0 : Int) (r : Bool) (h : vcode_allowed  a0 = some r) : CallP Tryd.prog glob 119 [(tI a0)] (tB r) := by
  refine call_of_code Tryd.func119 rfl Tryd.ntmps119 rfl (fun L w => ?_)
  change OkC _ _ _ [(0, (tI a0))] (L)
  unfold vcode_allowed at h
  refine okC_seq ?_
  refine okC_region ?_
  refine okL_step 2 (tB false) rfl rfl (does_assign rfl) ?_
  refine okL_nil ?_
  refine okX_next ?_
  refine okC_seq ?_
  refine okC_seq ?_
  refine okC_region ?_
  refine okL_step 3 (tI a0) rfl rfl (does_move rfl) ?_
  refine okL_nil ?_
  refine okX_next ?_
  refine okC_block ?_
  obtain ⟨z3, h5, hz4⟩ := bs h
  refine okC_meet (X := Bool) (fun x => z3 = x) (fun x : Bool => [(0, (tI a0)), (4, (tB x))]) (fun x : Bool => L) ?_ ?_
  · refine okC_seq ?_
    refine okC_region ?_
    refine okL_step 5 (tB (a0 == 3)) rfl rfl (does_eql rfl rfl) ?_
    refine okL_step 4 (tB (a0 == 3)) rfl rfl (does_assign rfl) ?_
    refine okL_nil ?_
    refine okX_next ?_
    refine okC_cond (b := (a0 == 3)) rfl (fun hb6 => ?_) (fun hb6 => ?_)
    · replace h5 := ct hb6 h5
      refine okC_skip ?_
      exact okX_meet (I := _) (a0 == 3) (smh h5) (cc rfl (cc rfl cn)) rfl
    · replace h5 := cf hb6 h5
      refine okC_seq ?_
      refine okC_region ?_
      refine okL_step 6 (tB (a0 == 6)) rfl rfl (does_eql rfl rfl) ?_
      refine okL_step 4 (tB (a0 == 6)) rfl rfl (does_assign rfl) ?_
      refine okL_nil ?_
      refine okX_next ?_
      refine okC_cond (b := (a0 == 6)) rfl (fun hb7 => ?_) (fun hb7 => ?_)
      · replace h5 := ct hb7 h5
        refine okC_skip ?_
        exact okX_meet (I := _) (a0 == 6) (smh h5) (cc rfl (cc rfl cn)) rfl
      · replace h5 := cf hb7 h5
        refine okC_seq ?_
        refine okC_region ?_
        refine okL_step 7 (tB (a0 == 9)) rfl rfl (does_eql rfl rfl) ?_
        refine okL_step 4 (tB (a0 == 9)) rfl rfl (does_assign rfl) ?_
        refine okL_nil ?_
        refine okX_next ?_
        refine okC_cond (b := (a0 == 9)) rfl (fun hb8 => ?_) (fun hb8 => ?_)
        · replace h5 := ct hb8 h5
          refine okC_skip ?_
          exact okX_meet (I := _) (a0 == 9) (smh h5) (cc rfl (cc rfl cn)) rfl
        · replace h5 := cf hb8 h5
          refine okC_seq ?_
          refine okC_region ?_
          refine okL_step 8 (tB (a0 == 10)) rfl rfl (does_eql rfl rfl) ?_
          refine okL_step 4 (tB (a0 == 10)) rfl rfl (does_assign rfl) ?_
          refine okL_nil ?_
          refine okX_next ?_
          refine okC_cond (b := (a0 == 10)) rfl (fun hb9 => ?_) (fun hb9 => ?_)
          · replace h5 := ct hb9 h5
            refine okC_skip ?_
            exact okX_meet (I := _) (a0 == 10) (smh h5) (cc rfl (cc rfl cn)) rfl
          · replace h5 := cf hb9 h5
            refine okC_seq ?_
            refine okC_region ?_
            refine okL_step 9 (tB (a0 == 11)) rfl rfl (does_eql rfl rfl) ?_
            refine okL_step 4 (tB (a0 == 11)) rfl rfl (does_assign rfl) ?_
            refine okL_nil ?_
            refine okX_next ?_
            refine okC_cond (b := (a0 == 11)) rfl (fun hb10 => ?_) (fun hb10 => ?_)
            · replace h5 := ct hb10 h5
              refine okC_skip ?_
              exact okX_meet (I := _) (a0 == 11) (smh h5) (cc rfl (cc rfl cn)) rfl
            · replace h5 := cf hb10 h5
              refine okC_seq ?_
              refine okC_region ?_
              refine okL_step 10 (tB (a0 == 12)) rfl rfl (does_eql rfl rfl) ?_
              refine okL_step 4 (tB (a0 == 12)) rfl rfl (does_assign rfl) ?_
              refine okL_nil ?_
              refine okX_next ?_
              refine okC_cond (b := (a0 == 12)) rfl (fun hb11 => ?_) (fun hb11 => ?_)
              · replace h5 := ct hb11 h5
                refine okC_skip ?_
                exact okX_meet (I := _) (a0 == 12) (smh h5) (cc rfl (cc rfl cn)) rfl
              · replace h5 := cf hb11 h5
                refine okC_seq ?_
                refine okC_region ?_
                refine okL_step 11 (tB (a0 == 13)) rfl rfl (does_eql rfl rfl) ?_
                refine okL_step 4 (tB (a0 == 13)) rfl rfl (does_assign rfl) ?_
                refine okL_nil ?_
                refine okX_next ?_
                refine okC_cond (b := (a0 == 13)) rfl (fun hb12 => ?_) (fun hb12 => ?_)
                · replace h5 := ct hb12 h5
                  refine okC_skip ?_
                  exact okX_meet (I := _) (a0 == 13) (smh h5) (cc rfl (cc rfl cn)) rfl
                · replace h5 := cf hb12 h5
                  refine okC_seq ?_
                  refine okC_region ?_
                  refine okL_step 12 (tB (a0 == 33)) rfl rfl (does_eql rfl rfl) ?_
                  refine okL_step 4 (tB (a0 == 33)) rfl rfl (does_assign rfl) ?_
                  refine okL_nil ?_
                  refine okX_next ?_
                  refine okC_cond (b := (a0 == 33)) rfl (fun hb13 => ?_) (fun hb13 => ?_)
                  · replace h5 := ct hb13 h5
                    refine okC_skip ?_
                    exact okX_meet (I := _) (a0 == 33) (smh h5) (cc rfl (cc rfl cn)) rfl
                  · replace h5 := cf hb13 h5
                    refine okC_seq ?_
                    refine okC_region ?_
                    refine okL_step 13 (tB (a0 == 34)) rfl rfl (does_eql rfl rfl) ?_
                    refine okL_step 4 (tB (a0 == 34)) rfl rfl (does_assign rfl) ?_
                    refine okL_nil ?_
                    refine okX_next ?_
                    refine okC_cond (b := (a0 == 34)) rfl (fun hb14 => ?_) (fun hb14 => ?_)
                    · replace h5 := ct hb14 h5
                      refine okC_skip ?_
                      exact okX_meet (I := _) (a0 == 34) (smh h5) (cc rfl (cc rfl cn)) rfl
                    · replace h5 := cf hb14 h5
                      refine okC_seq ?_
                      refine okC_region ?_
                      refine okL_step 14 (tB (a0 == 35)) rfl rfl (does_eql rfl rfl) ?_
                      refine okL_step 4 (tB (a0 == 35)) rfl rfl (does_assign rfl) ?_
                      refine okL_nil ?_
                      refine okX_next ?_
                      refine okC_cond (b := (a0 == 35)) rfl (fun hb15 => ?_) (fun hb15 => ?_)
                      · replace h5 := ct hb15 h5
                        refine okC_skip ?_
                        exact okX_meet (I := _) (a0 == 35) (smh h5) (cc rfl (cc rfl cn)) rfl
                      · replace h5 := cf hb15 h5
                        refine okC_region ?_
                        refine okL_step 15 (tB (a0 == 38)) rfl rfl (does_eql rfl rfl) ?_
                        refine okL_step 4 (tB (a0 == 38)) rfl rfl (does_assign rfl) ?_
                        refine okL_nil ?_
                        exact okX_meet (I := _) (a0 == 38) (smh h5) (cc rfl (cc rfl cn)) rfl
  · intro s1 hx
    change OkC _ _ _ [(0, (tI a0)), (4, (tB s1))] (L)
    obtain rfl : s1 = z3 := hx.symm
    replace h := hz4
    refine okC_cond (b := s1) rfl (fun hb16 => ?_) (fun hb16 => ?_)
    · replace h := ct hb16 h
      refine okC_seq ?_
      refine okC_region ?_
      refine okL_step 2 (tB true) rfl rfl (does_assign rfl) ?_
      refine okL_nil ?_
      refine okX_next ?_
      refine okC_ret ?_
      refine okX_block_ret ?_
      refine okX_then_ret ?_
      obtain rfl := (smh h).symm
      exact okX_ret1 () Tryd.results119 rfl rfl
    · replace h := cf hb16 h
      refine okC_skip ?_
      refine okX_block_normal ?_
      refine okX_next ?_
      refine okC_seq ?_
      refine okC_region ?_
      refine okL_step 16 (tI a0) rfl rfl (does_move rfl) ?_
      refine okL_step 17 (tB (decide (a0 ≥ 15))) rfl rfl (does_geq rfl rfl) ?_
      refine okL_step 18 (tB (decide (a0 ≥ 15))) rfl rfl (does_move rfl) ?_
      refine okL_meet (X := Bool) 3 (fun x => x = ((decide (a0 ≥ 15)) && (decide (a0 ≤ 32)))) (fun x : Bool => [(21, (tB x))]) (fun x : Bool => L) _ rfl ?_ ?_
      · refine okL_split (decide (a0 ≥ 15)) (fun hb17 => ?_) (fun hb17 => ?_)
        · refine okL_guard 19 (tI a0) 18 (decide (a0 ≥ 15)) rfl rfl hb17 rfl rfl (does_move rfl) ?_
          refine okL_guard 20 (tB (decide (a0 ≤ 32))) 18 (decide (a0 ≥ 15)) rfl rfl hb17 rfl rfl (does_leq rfl rfl) ?_
          refine okL_step 21 (tB (decide (a0 ≤ 32))) rfl rfl (does_pick_t (decide (a0 ≥ 15)) rfl hb17 rfl) ?_
          refine okL_nil ?_
          exact okX_meet (I := _) (decide (a0 ≤ 32)) (and_t hb17) (cc rfl cn) rfl
        · refine okL_skip 19 18 (decide (a0 ≥ 15)) rfl rfl hb17 rfl rfl ?_
          refine okL_skip 20 18 (decide (a0 ≥ 15)) rfl rfl hb17 rfl rfl ?_
          refine okL_step 21 (tB false) rfl rfl (does_pick_f (decide (a0 ≥ 15)) rfl hb17 rfl) ?_
          refine okL_nil ?_
          exact okX_meet (I := _) false (and_f hb17) (cc rfl cn) rfl
      · intro x18 hx
        subst hx
        change OkL _ _ _ _ [(21, (tB ((decide (a0 ≥ 15)) && (decide (a0 ≤ 32)))))] (L)
        refine okL_step 2 (tB ((decide (a0 ≥ 15)) && (decide (a0 ≤ 32)))) rfl rfl (does_assign rfl) ?_
        refine okL_nil ?_
        refine okX_next ?_
        refine okC_ret ?_
        obtain rfl := (smh h).symm
        exact okX_ret1 () Tryd.results119 rfl rfl

def machine_Info  (a0 : Int) : Option (OpInfo × Bool) :=
  (cnd ((decide (a0 < 1)) || (decide (a0 > 37))) (some ((⟨⟨#[]⟩, 0, false, false, false, false, 0⟩ : OpInfo), false)) (Option.bind (idx tableL (w64 (a0 - 1))) (fun y4 => (some (y4, true)))))

theorem c_machine_Info  (a0 : Int) (r : OpInfo × Bool) (h : machine_Info  a0 = some r) : CallP Tryd.prog glob 120 [(tI a0)] (Ty.tup [(Ty.agg [(tS r.1.Name), (tI r.1.Form), (tB r.1.ReadsA), (tB r.1.WritesA), (tB r.1.ReadsB), (tB r.1.MayTrap), (tI r.1.Words)]), (tB r.2)]) := by
  refine call_of_code Tryd.func120 rfl Tryd.ntmps120 rfl (fun L w => ?_)
  change OkC _ _ _ [(0, (tI a0))] (L)
  unfold machine_Info at h
  refine okC_seq ?_
  refine okC_region ?_
  refine okL_stepO 2 rfl rfl (doesO_alloc [(tS ⟨#[]⟩), (tI 0), (tB false), (tB false), (tB false), (tB false), (tI 0)] Tryd.zeroValue113 (part_of (sub_agg [(.string ⟨#[]⟩), (.int .i64 0), (.bool false), (.bool false), (.bool false), (.bool false), (.int .i64 0)] rfl) (part_agg _)) (fun g1 => ?_))
  refine okL_step 3 (tB false) rfl rfl (does_assign rfl) ?_
  refine okL_nil ?_
  refine okX_next ?_
  refine okC_seq ?_
  refine okC_seq ?_
  refine okC_region ?_
  refine okL_step 4 (tI a0) rfl rfl (does_move rfl) ?_
  refine okL_step 5 (tB (decide (a0 < 1))) rfl rfl (does_lss rfl rfl) ?_
  refine okL_step 6 (tB (decide (a0 < 1))) rfl rfl (does_move rfl) ?_
  refine okL_meet (X := Bool) 3 (fun x => x = ((decide (a0 < 1)) || (decide (a0 > 37)))) (fun x : Bool => [(0, (tI a0)), (2, (pAt g1 0)), (9, (tB x))]) (fun x : Bool => Item.blk g1 113 [(tS ⟨#[]⟩), (tI 0), (tB false), (tB false), (tB false), (tB false), (tI 0)] :: L) _ rfl ?_ ?_
  · refine okL_split (decide (a0 < 1)) (fun hb2 => ?_) (fun hb2 => ?_)
    · refine okL_skip 7 6 (decide (a0 < 1)) rfl rfl hb2 rfl rfl ?_
      refine okL_skip 8 6 (decide (a0 < 1)) rfl rfl hb2 rfl rfl ?_
      refine okL_step 9 (tB true) rfl rfl (does_pick_t (decide (a0 < 1)) rfl hb2 rfl) ?_
      refine okL_nil ?_
      exact okX_meet (I := _) true (or_t hb2) (cc rfl (cc rfl (cc rfl cn))) rfl
    · refine okL_guard 7 (tI a0) 6 (decide (a0 < 1)) rfl rfl hb2 rfl rfl (does_move rfl) ?_
      refine okL_guard 8 (tB (decide (a0 > 37))) 6 (decide (a0 < 1)) rfl rfl hb2 rfl rfl (does_gtr rfl rfl) ?_
      refine okL_step 9 (tB (decide (a0 > 37))) rfl rfl (does_pick_f (decide (a0 < 1)) rfl hb2 rfl) ?_
      refine okL_nil ?_
      exact okX_meet (I := _) (decide (a0 > 37)) (or_f hb2) (cc rfl (cc rfl (cc rfl cn))) rfl
  · intro x6 hx
    subst hx
    change OkL _ _ _ _ [(0, (tI a0)), (2, (pAt g1 0)), (9, (tB ((decide (a0 < 1)) || (decide (a0 > 37)))))] (Item.blk g1 113 [(tS ⟨#[]⟩), (tI 0), (tB false), (tB false), (tB false), (tB false), (tI 0)] :: L)
    refine okL_nil ?_
    refine okX_next ?_
    refine okC_cond (b := ((decide (a0 < 1)) || (decide (a0 > 37)))) rfl (fun hb3 => ?_) (fun hb3 => ?_)
    · replace h := ct hb3 h
      refine okC_seq ?_
      refine okC_region ?_
      refine okL_step 10 (Ty.agg [(tS ⟨#[]⟩), (tI 0), (tB false), (tB false), (tB false), (tB false), (tI 0)]) rfl rfl (does_build [(tS ⟨#[]⟩), (tI 0), (tB false), (tB false), (tB false), (tB false), (tI 0)] Tryd.zeroValue113 Tryd.underlying113 (places113 _ Tryd.underlying113) rfl (fn_ rfl)) ?_
      refine okL_stepU rfl (doesO_storeB (ps := [(tS ⟨#[]⟩), (tI 0), (tB false), (tB false), (tB false), (tB false), (tI 0)]) 0 [(tS ⟨#[]⟩), (tI 0), (tB false), (tB false), (tB false), (tB false), (tI 0)] (Item.blk g1 113 [(tS ⟨#[]⟩), (tI 0), (tB false), (tB false), (tB false), (tB false), (tI 0)] :: L) rfl rfl (part_agg _) Tryd.sizeOf113 rfl rfl rfl rfl ?_)
      refine okL_step 3 (tB false) rfl rfl (does_assign rfl) ?_
      refine okL_nil ?_
      refine okX_next ?_
      refine okC_ret ?_
      refine okX_then_ret ?_
      obtain rfl := (smh h).symm
      exact okX_retCT () Tryd.results120 rfl rfl 0 rfl Tryd.isAgg113 Tryd.sizeOf113 rfl rfl [Item.blk g1 113 [(tS ⟨#[]⟩), (tI 0), (tB false), (tB false), (tB false), (tB false), (tI 0)]] (pm 0 rfl (pr _))
    · replace h := cf hb3 h
      refine okC_skip ?_
      refine okX_next ?_
      refine okC_seq ?_
      refine okC_region ?_
      refine okL_step 11 (tL 7 OpInfo.ty tableL) rfl rfl (does_loadG Tryd.isAgg162 (List.Mem.head _)) ?_
      refine okL_step 12 (tI a0) rfl rfl (does_move rfl) ?_
      refine okL_step 13 (tI (w64 (a0 - 1))) rfl rfl (does_sub rfl rfl) ?_
      obtain ⟨y4, hi5, h⟩ := bs h
      refine okL_step 14 (Ty.ptr [(tS y4.Name), (tI y4.Form), (tB y4.ReadsA), (tB y4.WritesA), (tB y4.ReadsB), (tB y4.MayTrap), (tI y4.Words)]) rfl rfl (does_index (sz := 7) (f := OpInfo.ty) (l := tableL) (n := (w64 (a0 - 1))) y4 Tryd.underlying162 Tryd.sizeOf113 hi5 rfl rfl) ?_
      refine okL_step 15 (Ty.agg [(tS y4.Name), (tI y4.Form), (tB y4.ReadsA), (tB y4.WritesA), (tB y4.ReadsB), (tB y4.MayTrap), (tI y4.Words)]) rfl rfl (does_loadA [(tS y4.Name), (tI y4.Form), (tB y4.ReadsA), (tB y4.WritesA), (tB y4.ReadsB), (tB y4.MayTrap), (tI y4.Words)] Tryd.isAgg113 Tryd.sizeOf113 rfl rfl rfl) ?_
      refine okL_stepU rfl (doesO_storeB (ps := [(tS y4.Name), (tI y4.Form), (tB y4.ReadsA), (tB y4.WritesA), (tB y4.ReadsB), (tB y4.MayTrap), (tI y4.Words)]) 0 [(tS y4.Name), (tI y4.Form), (tB y4.ReadsA), (tB y4.WritesA), (tB y4.ReadsB), (tB y4.MayTrap), (tI y4.Words)] (Item.blk g1 113 [(tS y4.Name), (tI y4.Form), (tB y4.ReadsA), (tB y4.WritesA), (tB y4.ReadsB), (tB y4.MayTrap), (tI y4.Words)] :: L) rfl rfl (part_agg _) Tryd.sizeOf113 rfl rfl rfl rfl ?_)
      refine okL_step 3 (tB true) rfl rfl (does_assign rfl) ?_
      refine okL_nil ?_
      refine okX_next ?_
      refine okC_ret ?_
      obtain rfl := (smh h).symm
      exact okX_retCT () Tryd.results120 rfl rfl 0 rfl Tryd.isAgg113 Tryd.sizeOf113 rfl rfl [Item.blk g1 113 [(tS y4.Name), (tI y4.Form), (tB y4.ReadsA), (tB y4.WritesA), (tB y4.ReadsB), (tB y4.MayTrap), (tI y4.Words)]] (pm 0 rfl (pr _))

def law33_example_1  (a0 : Int) (a1 : Int) (a2 : Int) (a3 : Int) : Option VInstr :=
  (some (⟨(⟨a0, a1, a2, 0, a3⟩ : Instr), []⟩ : VInstr))

theorem c_law33_example_1  (a0 : Int) (a1 : Int) (a2 : Int) (a3 : Int) (r : VInstr) (h : law33_example_1  a0 a1 a2 a3 = some r) : CallP Tryd.prog glob 66 [(tI a0), (tI a1), (tI a2), (tI a3)] (Ty.agg [(tI r.Instr.Op), (tI r.Instr.A), (tI r.Instr.B), (tI r.Instr.C), (tI r.Instr.N), (tL 1 lI r.Args)]) := by
  refine call_of_code Tryd.func66 rfl Tryd.ntmps66 rfl (fun L w => ?_)
  change OkC _ _ _ [(0, (tI a0)), (1, (tI a1)), (2, (tI a2)), (3, (tI a3))] (L)
  unfold law33_example_1 at h
  refine okC_seq ?_
  refine okC_region ?_
  refine okL_stepO 8 rfl rfl (doesO_alloc [(tI 0), (tI 0), (tI 0), (tI 0), (tI 0), (Ty.val (.slice none 0 0))] Tryd.zeroValue48 (part_of (sub_agg [(.int .i64 0), (.int .i64 0), (.int .i64 0), (.int .i64 0), (.int .i64 0), (.slice none 0 0)] rfl) (part_agg _)) (fun g1 => ?_))
  refine okL_nil ?_
  refine okX_next ?_
  refine okC_seq ?_
  refine okC_region ?_
  refine okL_step 9 (tI a0) rfl rfl (does_move rfl) ?_
  refine okL_step 10 (tI a1) rfl rfl (does_move rfl) ?_
  refine okL_step 11 (tI a2) rfl rfl (does_move rfl) ?_
  refine okL_step 12 (tI a3) rfl rfl (does_move rfl) ?_
  refine okL_step 13 (Ty.agg [(tI a0), (tI a1), (tI a2), (tI 0), (tI a3)]) rfl rfl (does_build [(tI a0), (tI a1), (tI a2), (tI 0), (tI a3)] Tryd.zeroValue46 Tryd.underlying46 (places46 _ Tryd.underlying46) rfl (fc [(tI a0)] 0 rfl (part_one (one_i _)) rfl rfl (fc [(tI a1)] 1 rfl (part_one (one_i _)) rfl rfl (fc [(tI a2)] 2 rfl (part_one (one_i _)) rfl rfl (fc [(tI a3)] 4 rfl (part_one (one_i _)) rfl rfl (fn_ rfl)))))) ?_
  refine okL_step 14 (Ty.agg [(tI a0), (tI a1), (tI a2), (tI 0), (tI a3), (Ty.val (.slice none 0 0))]) rfl rfl (does_build [(tI a0), (tI a1), (tI a2), (tI 0), (tI a3), (Ty.val (.slice none 0 0))] Tryd.zeroValue48 Tryd.underlying48 (places48 _ Tryd.underlying48) rfl (fc [(tI a0), (tI a1), (tI a2), (tI 0), (tI a3)] 0 rfl (part_agg _) rfl rfl (fn_ rfl))) ?_
  refine okL_stepU rfl (doesO_storeB (ps := [(tI a0), (tI a1), (tI a2), (tI 0), (tI a3), (Ty.val (.slice none 0 0))]) 0 [(tI a0), (tI a1), (tI a2), (tI 0), (tI a3), (Ty.val (.slice none 0 0))] (Item.blk g1 48 [(tI a0), (tI a1), (tI a2), (tI 0), (tI a3), (Ty.val (.slice none 0 0))] :: L) rfl rfl (part_agg _) Tryd.sizeOf48 rfl rfl rfl rfl ?_)
  refine okL_nil ?_
  refine okX_next ?_
  refine okC_ret ?_
  obtain rfl := (smh h).symm
  refine okX_blksub 0 [(tI a0), (tI a1), (tI a2), (tI 0), (tI a3), (tL 1 lI [])] (Item.blk g1 48 [(tI a0), (tI a1), (tI a2), (tI 0), (tI a3), (tL 1 lI [])] :: L) rfl (.cons (sub_refl _) (.cons (sub_refl _) (.cons (sub_refl _) (.cons (sub_refl _) (.cons (sub_refl _) (.cons (sub_nil _) SubL.nil)))))) rfl ?_
  exact okX_retC () Tryd.results66 rfl 0 rfl Tryd.isAgg48 Tryd.sizeOf48 rfl rfl [Item.blk g1 48 [(tI a0), (tI a1), (tI a2), (tI 0), (tI a3), (tL 1 lI [])]] (pm 0 rfl (pr _))

def vcode_form  (a0 : Int) : Option Int :=
  (cnd (a0 == 38) (some 5) (Option.bind (machine_Info a0) (fun r2 => (some r2.1.Form))))

theorem c_vcode_form  (a0 : Int) (r : Int) (h : vcode_form  a0 = some r) : CallP Tryd.prog glob 127 [(tI a0)] (tI r) := by
  refine call_of_code Tryd.func127 rfl Tryd.ntmps127 rfl (fun L w => ?_)
  change OkC _ _ _ [(0, (tI a0))] (L)
  unfold vcode_form at h
  refine okC_seq ?_
  refine okC_region ?_
  refine okL_step 2 (tI 0) rfl rfl (does_assign rfl) ?_
  refine okL_nil ?_
  refine okX_next ?_
  refine okC_seq ?_
  refine okC_seq ?_
  refine okC_region ?_
  refine okL_step 5 (tI a0) rfl rfl (does_move rfl) ?_
  refine okL_step 6 (tB (a0 == 38)) rfl rfl (does_eql rfl rfl) ?_
  refine okL_nil ?_
  refine okX_next ?_
  refine okC_cond (b := (a0 == 38)) rfl (fun hb1 => ?_) (fun hb1 => ?_)
  · replace h := ct hb1 h
    refine okC_seq ?_
    refine okC_region ?_
    refine okL_step 2 (tI 5) rfl rfl (does_assign rfl) ?_
    refine okL_nil ?_
    refine okX_next ?_
    refine okC_ret ?_
    refine okX_then_ret ?_
    obtain rfl := (smh h).symm
    exact okX_ret1 () Tryd.results127 rfl rfl
  · replace h := cf hb1 h
    refine okC_skip ?_
    refine okX_next ?_
    refine okC_seq ?_
    refine okC_region ?_
    refine okL_step 8 (tI a0) rfl rfl (does_move rfl) ?_
    obtain ⟨r2, hc3, h⟩ := bs h
    refine okL_step 9 (Ty.tup [(Ty.agg [(tS r2.1.Name), (tI r2.1.Form), (tB r2.1.ReadsA), (tB r2.1.WritesA), (tB r2.1.ReadsB), (tB r2.1.MayTrap), (tI r2.1.Words)]), (tB r2.2)]) rfl rfl (does_call0 (c_machine_Info a0 r2 hc3) rfl Tryd.call120 rfl) ?_
    refine okL_step 7 (Ty.tup [(Ty.agg [(tS r2.1.Name), (tI r2.1.Form), (tB r2.1.ReadsA), (tB r2.1.WritesA), (tB r2.1.ReadsB), (tB r2.1.MayTrap), (tI r2.1.Words)]), (tB r2.2)]) rfl rfl (does_move rfl) ?_
    refine okL_step 10 (Ty.agg [(tS r2.1.Name), (tI r2.1.Form), (tB r2.1.ReadsA), (tB r2.1.WritesA), (tB r2.1.ReadsB), (tB r2.1.MayTrap), (tI r2.1.Words)]) rfl rfl (does_extract rfl rfl) ?_
    refine okL_step 11 (tB r2.2) rfl rfl (does_extract rfl rfl) ?_
    refine okL_stepO 3 rfl rfl (doesO_alloc [(tS ⟨#[]⟩), (tI 0), (tB false), (tB false), (tB false), (tB false), (tI 0)] Tryd.zeroValue113 (part_of (sub_agg [(.string ⟨#[]⟩), (.int .i64 0), (.bool false), (.bool false), (.bool false), (.bool false), (.int .i64 0)] rfl) (part_agg _)) (fun g4 => ?_))
    refine okL_stepU rfl (doesO_storeB (ps := [(tS r2.1.Name), (tI r2.1.Form), (tB r2.1.ReadsA), (tB r2.1.WritesA), (tB r2.1.ReadsB), (tB r2.1.MayTrap), (tI r2.1.Words)]) 0 [(tS r2.1.Name), (tI r2.1.Form), (tB r2.1.ReadsA), (tB r2.1.WritesA), (tB r2.1.ReadsB), (tB r2.1.MayTrap), (tI r2.1.Words)] (Item.blk g4 113 [(tS r2.1.Name), (tI r2.1.Form), (tB r2.1.ReadsA), (tB r2.1.WritesA), (tB r2.1.ReadsB), (tB r2.1.MayTrap), (tI r2.1.Words)] :: L) rfl rfl (part_agg _) Tryd.sizeOf113 rfl rfl rfl rfl ?_)
    refine okL_step 4 (tB r2.2) rfl rfl (does_assign rfl) ?_
    refine okL_nil ?_
    refine okX_next ?_
    refine okC_seq ?_
    refine okC_region ?_
    refine okL_step 12 (pAt g4 1) rfl rfl (does_fieldAddrP 1 Tryd.underlying113 rfl Tryd.sizeOf3 rfl rfl) ?_
    refine okL_step 13 (tI r2.1.Form) rfl rfl (does_loadB1 Tryd.isAgg3 rfl 0 rfl rfl) ?_
    refine okL_step 2 (tI r2.1.Form) rfl rfl (does_assign rfl) ?_
    refine okL_nil ?_
    refine okX_next ?_
    refine okC_ret ?_
    obtain rfl := (smh h).symm
    refine okX_items [Item.blk g4 113 [(tS r2.1.Name), (tI r2.1.Form), (tB r2.1.ReadsA), (tB r2.1.WritesA), (tB r2.1.ReadsB), (tB r2.1.MayTrap), (tI r2.1.Words)]] (L) (pm 0 rfl (pr _)) ?_
    exact okX_ret1 () Tryd.results127 rfl rfl

def ref32_allowed  (a0 : Int) : Option Bool :=
  (Option.bind (cnd (a0 == 3) (some (a0 == 3)) (cnd (a0 == 6) (some (a0 == 6)) (cnd (a0 == 9) (some (a0 == 9)) (cnd (a0 == 10) (some (a0 == 10)) (cnd (a0 == 11) (some (a0 == 11)) (cnd (a0 == 12) (some (a0 == 12)) (cnd (a0 == 13) (some (a0 == 13)) (cnd (a0 == 33) (some (a0 == 33)) (cnd (a0 == 34) (some (a0 == 34)) (cnd (a0 == 35) (some (a0 == 35)) (some (a0 == 38)))))))))))) (fun s1 => (cnd s1 (some true) (some ((decide (a0 ≥ 15)) && (decide (a0 ≤ 32)))))))

def ref32_endReads  (a0 : Block) : Option (List Int) :=
  (cnd ((a0.End == 2) || (a0.End == 3)) (some ([a0.Reg] : List Int)) (some ([] : List Int)))

def ref32_validEnd  (a0 : Block) (a1 : VFunc) : Option Bool :=
  (Option.bind (cnd (decide (a0.Target ≥ 0)) (cnd (decide (a0.Else ≥ 0)) (cnd (decide (a0.Reg ≥ 0)) (some ((decide (a0.Target < ((a1.Blocks).length : Int))), (decide (a0.Else < ((a1.Blocks).length : Int))), (decide (a0.Reg < a1.Regs)))) (some ((decide (a0.Target < ((a1.Blocks).length : Int))), (decide (a0.Else < ((a1.Blocks).length : Int))), false))) (cnd (decide (a0.Reg ≥ 0)) (some ((decide (a0.Target < ((a1.Blocks).length : Int))), false, (decide (a0.Reg < a1.Regs)))) (some ((decide (a0.Target < ((a1.Blocks).length : Int))), false, false)))) (cnd (decide (a0.Else ≥ 0)) (cnd (decide (a0.Reg ≥ 0)) (some (false, (decide (a0.Else < ((a1.Blocks).length : Int))), (decide (a0.Reg < a1.Regs)))) (some (false, (decide (a0.Else < ((a1.Blocks).length : Int))), false))) (cnd (decide (a0.Reg ≥ 0)) (some (false, false, (decide (a0.Reg < a1.Regs)))) (some (false, false, false))))) (fun s3 => (cnd (a0.End == 1) (some ((s3.1 && (a0.Else == 0)) && (a0.Reg == 0))) (cnd (a0.End == 2) (some ((s3.1 && s3.2.1) && s3.2.2)) (cnd (a0.End == 3) (some ((s3.2.2 && (a0.Target == 0)) && (a0.Else == 0))) (cnd (a0.End == 4) (some ((((decide (a0.Target ≥ 1)) && (decide (a0.Target < 33554432))) && (a0.Else == 0)) && (a0.Reg == 0))) (some false)))))))

def ref29_IsBinary  (a0 : Int) : Option Bool :=
  (some ((decide (a0 ≥ 17)) && (decide (a0 ≤ 32))))

theorem c_ref29_IsBinary  (a0 : Int) (r : Bool) (h : ref29_IsBinary  a0 = some r) : CallP Tryd.prog glob 124 [(tI a0)] (tB r) := by
  refine call_of_code Tryd.func124 rfl Tryd.ntmps124 rfl (fun L w => ?_)
  change OkC _ _ _ [(0, (tI a0))] (L)
  unfold ref29_IsBinary at h
  refine okC_seq ?_
  refine okC_region ?_
  refine okL_step 2 (tB false) rfl rfl (does_assign rfl) ?_
  refine okL_nil ?_
  refine okX_next ?_
  refine okC_seq ?_
  refine okC_region ?_
  refine okL_step 3 (tI a0) rfl rfl (does_move rfl) ?_
  refine okL_step 4 (tB (decide (a0 ≥ 17))) rfl rfl (does_geq rfl rfl) ?_
  refine okL_step 5 (tB (decide (a0 ≥ 17))) rfl rfl (does_move rfl) ?_
  refine okL_meet (X := Bool) 3 (fun x => x = ((decide (a0 ≥ 17)) && (decide (a0 ≤ 32)))) (fun x : Bool => [(2, (tB false)), (8, (tB x))]) (fun x : Bool => L) _ rfl ?_ ?_
  · refine okL_split (decide (a0 ≥ 17)) (fun hb1 => ?_) (fun hb1 => ?_)
    · refine okL_guard 6 (tI a0) 5 (decide (a0 ≥ 17)) rfl rfl hb1 rfl rfl (does_move rfl) ?_
      refine okL_guard 7 (tB (decide (a0 ≤ 32))) 5 (decide (a0 ≥ 17)) rfl rfl hb1 rfl rfl (does_leq rfl rfl) ?_
      refine okL_step 8 (tB (decide (a0 ≤ 32))) rfl rfl (does_pick_t (decide (a0 ≥ 17)) rfl hb1 rfl) ?_
      refine okL_nil ?_
      exact okX_meet (I := _) (decide (a0 ≤ 32)) (and_t hb1) (cc rfl (cc rfl cn)) rfl
    · refine okL_skip 6 5 (decide (a0 ≥ 17)) rfl rfl hb1 rfl rfl ?_
      refine okL_skip 7 5 (decide (a0 ≥ 17)) rfl rfl hb1 rfl rfl ?_
      refine okL_step 8 (tB false) rfl rfl (does_pick_f (decide (a0 ≥ 17)) rfl hb1 rfl) ?_
      refine okL_nil ?_
      exact okX_meet (I := _) false (and_f hb1) (cc rfl (cc rfl cn)) rfl
  · intro x2 hx
    subst hx
    change OkL _ _ _ _ [(2, (tB false)), (8, (tB ((decide (a0 ≥ 17)) && (decide (a0 ≤ 32)))))] (L)
    refine okL_step 2 (tB ((decide (a0 ≥ 17)) && (decide (a0 ≤ 32)))) rfl rfl (does_assign rfl) ?_
    refine okL_nil ?_
    refine okX_next ?_
    refine okC_ret ?_
    obtain rfl := (smh h).symm
    exact okX_ret1 () Tryd.results124 rfl rfl

def ref32_validOperand  (a0 : Bool) (a1 : Int) (a2 : Int) : Option Bool :=
  (cnd a0 (some ((decide (a1 ≥ 0)) && (decide (a1 < a2)))) (some (a1 == 0)))

def law33_example  : Option VFunc :=
  (Option.bind (law33_example_1 13 0 0 0) (fun r2 => (Option.bind (law33_example_1 38 1 0 0) (fun r4 => (Option.bind (law33_example_1 3 0 0 0) (fun r6 => (Option.bind (law33_example_1 17 0 1 0) (fun r8 => (Option.bind (law33_example_1 33 1 0 (-1)) (fun r10 => (Option.bind (law33_example_1 13 2 0 5) (fun r12 => (some (⟨1, 3, ([(⟨([r2, r4] : List VInstr), 1, 0, 1, 0⟩ : Block), (⟨([r6, r8, r10, r12] : List VInstr), 2, 1, 1, 2⟩ : Block), (⟨[], 3, 0, 0, 0⟩ : Block)] : List Block)⟩ : VFunc))))))))))))))

theorem c_law33_example  (r : VFunc) (h : law33_example  = some r) : CallP Tryd.prog glob 23 [] (Ty.agg [(tI r.Params), (tI r.Regs), (tL 5 Block.ty r.Blocks)]) := by
  refine call_of_code Tryd.func23 rfl Tryd.ntmps23 rfl (fun L w => ?_)
  change OkC _ _ _ [] (L)
  unfold law33_example at h
  refine okC_seq ?_
  refine okC_region ?_
  refine okL_stepO 0 rfl rfl (doesO_alloc [(tI 0), (tI 0), (Ty.val (.slice none 0 0))] Tryd.zeroValue27 (part_of (sub_agg [(.int .i64 0), (.int .i64 0), (.slice none 0 0)] rfl) (part_agg _)) (fun g1 => ?_))
  refine okL_nil ?_
  refine okX_next ?_
  refine okC_seq ?_
  refine okC_region ?_
  refine okL_step 1 (Ty.val (.func (.func 66) #[] #[])) rfl rfl (does_assign rfl) ?_
  refine okL_nil ?_
  refine okX_next ?_
  refine okC_seq ?_
  refine okC_region ?_
  refine okL_step 2 (Ty.val (.func (.func 66) #[] #[])) rfl rfl (does_move rfl) ?_
  obtain ⟨r2, hc3, h⟩ := bs h
  refine okL_step 3 (Ty.agg [(tI r2.Instr.Op), (tI r2.Instr.A), (tI r2.Instr.B), (tI r2.Instr.C), (tI r2.Instr.N), (tL 1 lI r2.Args)]) rfl rfl (does_call0 (c_law33_example_1 13 0 0 0 r2 hc3) rfl Tryd.call66 rfl) ?_
  refine okL_step 4 (Ty.val (.func (.func 66) #[] #[])) rfl rfl (does_move rfl) ?_
  obtain ⟨r4, hc5, h⟩ := bs h
  refine okL_step 5 (Ty.agg [(tI r4.Instr.Op), (tI r4.Instr.A), (tI r4.Instr.B), (tI r4.Instr.C), (tI r4.Instr.N), (tL 1 lI r4.Args)]) rfl rfl (does_call0 (c_law33_example_1 38 1 0 0 r4 hc5) rfl Tryd.call66 rfl) ?_
  refine okL_step 6 (tL 6 VInstr.ty ([r2, r4] : List VInstr)) rfl rfl (does_buildSlice (f := VInstr.ty) ([r2, r4] : List VInstr) [(tI r2.Instr.Op), (tI r2.Instr.A), (tI r2.Instr.B), (tI r2.Instr.C), (tI r2.Instr.N), (tL 1 lI r2.Args), (tI r4.Instr.Op), (tI r4.Instr.A), (tI r4.Instr.B), (tI r4.Instr.C), (tI r4.Instr.N), (tL 1 lI r4.Args)] el41 rfl rfl rfl (fc [(tI r2.Instr.Op), (tI r2.Instr.A), (tI r2.Instr.B), (tI r2.Instr.C), (tI r2.Instr.N), (tL 1 lI r2.Args)] 0 rfl (part_agg _) rfl rfl (fc [(tI r4.Instr.Op), (tI r4.Instr.A), (tI r4.Instr.B), (tI r4.Instr.C), (tI r4.Instr.N), (tL 1 lI r4.Args)] 6 rfl (part_agg _) rfl rfl (fn_ rfl))) rfl (fun _ => rfl)) ?_
  refine okL_step 7 (Ty.agg [(tL 6 VInstr.ty ([r2, r4] : List VInstr)), (tI 1), (tI 0), (tI 1), (tI 0)]) rfl rfl (does_build [(tL 6 VInstr.ty ([r2, r4] : List VInstr)), (tI 1), (tI 0), (tI 1), (tI 0)] Tryd.zeroValue43 Tryd.underlying43 (places43 _ Tryd.underlying43) rfl (fc [(tL 6 VInstr.ty ([r2, r4] : List VInstr))] 0 rfl (part_one (one_slice _ _)) rfl rfl (fc [(tI 1)] 1 rfl (part_one (one_i _)) rfl rfl (fc [(tI 1)] 3 rfl (part_one (one_i _)) rfl rfl (fn_ rfl))))) ?_
  refine okL_step 8 (Ty.val (.func (.func 66) #[] #[])) rfl rfl (does_move rfl) ?_
  obtain ⟨r6, hc7, h⟩ := bs h
  refine okL_step 9 (Ty.agg [(tI r6.Instr.Op), (tI r6.Instr.A), (tI r6.Instr.B), (tI r6.Instr.C), (tI r6.Instr.N), (tL 1 lI r6.Args)]) rfl rfl (does_call0 (c_law33_example_1 3 0 0 0 r6 hc7) rfl Tryd.call66 rfl) ?_
  refine okL_step 10 (Ty.val (.func (.func 66) #[] #[])) rfl rfl (does_move rfl) ?_
  obtain ⟨r8, hc9, h⟩ := bs h
  refine okL_step 11 (Ty.agg [(tI r8.Instr.Op), (tI r8.Instr.A), (tI r8.Instr.B), (tI r8.Instr.C), (tI r8.Instr.N), (tL 1 lI r8.Args)]) rfl rfl (does_call0 (c_law33_example_1 17 0 1 0 r8 hc9) rfl Tryd.call66 rfl) ?_
  refine okL_step 12 (Ty.val (.func (.func 66) #[] #[])) rfl rfl (does_move rfl) ?_
  obtain ⟨r10, hc11, h⟩ := bs h
  refine okL_step 13 (Ty.agg [(tI r10.Instr.Op), (tI r10.Instr.A), (tI r10.Instr.B), (tI r10.Instr.C), (tI r10.Instr.N), (tL 1 lI r10.Args)]) rfl rfl (does_call0 (c_law33_example_1 33 1 0 (-1) r10 hc11) rfl Tryd.call66 rfl) ?_
  refine okL_step 14 (Ty.val (.func (.func 66) #[] #[])) rfl rfl (does_move rfl) ?_
  obtain ⟨r12, hc13, h⟩ := bs h
  refine okL_step 15 (Ty.agg [(tI r12.Instr.Op), (tI r12.Instr.A), (tI r12.Instr.B), (tI r12.Instr.C), (tI r12.Instr.N), (tL 1 lI r12.Args)]) rfl rfl (does_call0 (c_law33_example_1 13 2 0 5 r12 hc13) rfl Tryd.call66 rfl) ?_
  refine okL_step 16 (tL 6 VInstr.ty ([r6, r8, r10, r12] : List VInstr)) rfl rfl (does_buildSlice (f := VInstr.ty) ([r6, r8, r10, r12] : List VInstr) [(tI r6.Instr.Op), (tI r6.Instr.A), (tI r6.Instr.B), (tI r6.Instr.C), (tI r6.Instr.N), (tL 1 lI r6.Args), (tI r8.Instr.Op), (tI r8.Instr.A), (tI r8.Instr.B), (tI r8.Instr.C), (tI r8.Instr.N), (tL 1 lI r8.Args), (tI r10.Instr.Op), (tI r10.Instr.A), (tI r10.Instr.B), (tI r10.Instr.C), (tI r10.Instr.N), (tL 1 lI r10.Args), (tI r12.Instr.Op), (tI r12.Instr.A), (tI r12.Instr.B), (tI r12.Instr.C), (tI r12.Instr.N), (tL 1 lI r12.Args)] el41 rfl rfl rfl (fc [(tI r6.Instr.Op), (tI r6.Instr.A), (tI r6.Instr.B), (tI r6.Instr.C), (tI r6.Instr.N), (tL 1 lI r6.Args)] 0 rfl (part_agg _) rfl rfl (fc [(tI r8.Instr.Op), (tI r8.Instr.A), (tI r8.Instr.B), (tI r8.Instr.C), (tI r8.Instr.N), (tL 1 lI r8.Args)] 6 rfl (part_agg _) rfl rfl (fc [(tI r10.Instr.Op), (tI r10.Instr.A), (tI r10.Instr.B), (tI r10.Instr.C), (tI r10.Instr.N), (tL 1 lI r10.Args)] 12 rfl (part_agg _) rfl rfl (fc [(tI r12.Instr.Op), (tI r12.Instr.A), (tI r12.Instr.B), (tI r12.Instr.C), (tI r12.Instr.N), (tL 1 lI r12.Args)] 18 rfl (part_agg _) rfl rfl (fn_ rfl))))) rfl (fun _ => rfl)) ?_
  refine okL_step 17 (Ty.agg [(tL 6 VInstr.ty ([r6, r8, r10, r12] : List VInstr)), (tI 2), (tI 1), (tI 1), (tI 2)]) rfl rfl (does_build [(tL 6 VInstr.ty ([r6, r8, r10, r12] : List VInstr)), (tI 2), (tI 1), (tI 1), (tI 2)] Tryd.zeroValue43 Tryd.underlying43 (places43 _ Tryd.underlying43) rfl (fc [(tL 6 VInstr.ty ([r6, r8, r10, r12] : List VInstr))] 0 rfl (part_one (one_slice _ _)) rfl rfl (fc [(tI 2)] 1 rfl (part_one (one_i _)) rfl rfl (fc [(tI 1)] 2 rfl (part_one (one_i _)) rfl rfl (fc [(tI 1)] 3 rfl (part_one (one_i _)) rfl rfl (fc [(tI 2)] 4 rfl (part_one (one_i _)) rfl rfl (fn_ rfl))))))) ?_
  refine okL_step 18 (Ty.agg [(Ty.val (.slice none 0 0)), (tI 3), (tI 0), (tI 0), (tI 0)]) rfl rfl (does_build [(Ty.val (.slice none 0 0)), (tI 3), (tI 0), (tI 0), (tI 0)] Tryd.zeroValue43 Tryd.underlying43 (places43 _ Tryd.underlying43) rfl (fc [(tI 3)] 1 rfl (part_one (one_i _)) rfl rfl (fn_ rfl))) ?_
  refine okL_step 19 (tL 5 Block.ty ([(⟨([r2, r4] : List VInstr), 1, 0, 1, 0⟩ : Block), (⟨([r6, r8, r10, r12] : List VInstr), 2, 1, 1, 2⟩ : Block), (⟨[], 3, 0, 0, 0⟩ : Block)] : List Block)) rfl rfl (does_buildSlice (f := Block.ty) ([(⟨([r2, r4] : List VInstr), 1, 0, 1, 0⟩ : Block), (⟨([r6, r8, r10, r12] : List VInstr), 2, 1, 1, 2⟩ : Block), (⟨[], 3, 0, 0, 0⟩ : Block)] : List Block) [(tL 6 VInstr.ty ([r2, r4] : List VInstr)), (tI 1), (tI 0), (tI 1), (tI 0), (tL 6 VInstr.ty ([r6, r8, r10, r12] : List VInstr)), (tI 2), (tI 1), (tI 1), (tI 2), (tL 6 VInstr.ty []), (tI 3), (tI 0), (tI 0), (tI 0)] el25 rfl rfl rfl (fc [(tL 6 VInstr.ty ([r2, r4] : List VInstr)), (tI 1), (tI 0), (tI 1), (tI 0)] 0 rfl (part_agg _) rfl rfl (fc [(tL 6 VInstr.ty ([r6, r8, r10, r12] : List VInstr)), (tI 2), (tI 1), (tI 1), (tI 2)] 5 rfl (part_agg _) rfl rfl (fc [(tL 6 VInstr.ty []), (tI 3), (tI 0), (tI 0), (tI 0)] 10 rfl (part_sub (part_agg _) (.cons (sub_nil _) (.cons (sub_refl _) (.cons (sub_refl _) (.cons (sub_refl _) (.cons (sub_refl _) SubL.nil)))))) rfl rfl (fn_ rfl)))) rfl (fun _ => rfl)) ?_
  refine okL_step 20 (Ty.agg [(tI 1), (tI 3), (tL 5 Block.ty ([(⟨([r2, r4] : List VInstr), 1, 0, 1, 0⟩ : Block), (⟨([r6, r8, r10, r12] : List VInstr), 2, 1, 1, 2⟩ : Block), (⟨[], 3, 0, 0, 0⟩ : Block)] : List Block))]) rfl rfl (does_build [(tI 1), (tI 3), (tL 5 Block.ty ([(⟨([r2, r4] : List VInstr), 1, 0, 1, 0⟩ : Block), (⟨([r6, r8, r10, r12] : List VInstr), 2, 1, 1, 2⟩ : Block), (⟨[], 3, 0, 0, 0⟩ : Block)] : List Block))] Tryd.zeroValue27 Tryd.underlying27 (places27 _ Tryd.underlying27) rfl (fc [(tI 1)] 0 rfl (part_one (one_i _)) rfl rfl (fc [(tI 3)] 1 rfl (part_one (one_i _)) rfl rfl (fc [(tL 5 Block.ty ([(⟨([r2, r4] : List VInstr), 1, 0, 1, 0⟩ : Block), (⟨([r6, r8, r10, r12] : List VInstr), 2, 1, 1, 2⟩ : Block), (⟨[], 3, 0, 0, 0⟩ : Block)] : List Block))] 2 rfl (part_one (one_slice _ _)) rfl rfl (fn_ rfl))))) ?_
  refine okL_stepU rfl (doesO_storeB (ps := [(tI 1), (tI 3), (tL 5 Block.ty ([(⟨([r2, r4] : List VInstr), 1, 0, 1, 0⟩ : Block), (⟨([r6, r8, r10, r12] : List VInstr), 2, 1, 1, 2⟩ : Block), (⟨[], 3, 0, 0, 0⟩ : Block)] : List Block))]) 0 [(tI 1), (tI 3), (tL 5 Block.ty ([(⟨([r2, r4] : List VInstr), 1, 0, 1, 0⟩ : Block), (⟨([r6, r8, r10, r12] : List VInstr), 2, 1, 1, 2⟩ : Block), (⟨[], 3, 0, 0, 0⟩ : Block)] : List Block))] (Item.blk g1 27 [(tI 1), (tI 3), (tL 5 Block.ty ([(⟨([r2, r4] : List VInstr), 1, 0, 1, 0⟩ : Block), (⟨([r6, r8, r10, r12] : List VInstr), 2, 1, 1, 2⟩ : Block), (⟨[], 3, 0, 0, 0⟩ : Block)] : List Block))] :: L) rfl rfl (part_agg _) Tryd.sizeOf27 rfl rfl rfl rfl ?_)
  refine okL_nil ?_
  refine okX_next ?_
  refine okC_ret ?_
  obtain rfl := (smh h).symm
  exact okX_retC () Tryd.results23 rfl 0 rfl Tryd.isAgg27 Tryd.sizeOf27 rfl rfl [Item.blk g1 27 [(tI 1), (tI 3), (tL 5 Block.ty ([(⟨([r2, r4] : List VInstr), 1, 0, 1, 0⟩ : Block), (⟨([r6, r8, r10, r12] : List VInstr), 2, 1, 1, 2⟩ : Block), (⟨[], 3, 0, 0, 0⟩ : Block)] : List Block))]] (pm 0 rfl (pr _))

def ref29_form  (a0 : Int) : Option Int :=
  (Option.bind (cnd (a0 == 1) (some (a0 == 1)) (cnd (a0 == 2) (some (a0 == 2)) (some (a0 == 3)))) (fun s1 => (cnd s1 (some 1) (Option.bind (cnd (a0 == 4) (some (a0 == 4)) (some (a0 == 5))) (fun s9 => (cnd s9 (some 8) (Option.bind (cnd (a0 == 6) (some (a0 == 6)) (cnd (a0 == 7) (some (a0 == 7)) (cnd (a0 == 8) (some (a0 == 8)) (cnd (a0 == 13) (some (a0 == 13)) (cnd (a0 == 33) (some (a0 == 33)) (cnd (a0 == 36) (some (a0 == 36)) (some (a0 == 37)))))))) (fun s16 => (cnd s16 (some 5) (Option.bind (cnd (a0 == 9) (some (a0 == 9)) (cnd (a0 == 15) (some (a0 == 15)) (some (a0 == 16)))) (fun s28 => (cnd s28 (some 2) (Option.bind (cnd (a0 == 11) (some (a0 == 11)) (some (a0 == 12))) (fun s36 => (cnd s36 (some 4) (cnd (a0 == 14) (some 6) (Option.bind (cnd (a0 == 34) (some (a0 == 34)) (some (a0 == 35))) (fun s44 => (cnd s44 (some 7) (Option.bind (cnd (a0 == 10) (some true) (Option.bind (ref29_IsBinary a0) (fun r56 => (some r56)))) (fun x55 => (cnd x55 (some 3) (some 0)))))))))))))))))))))))

theorem c_ref29_form  (a0 : Int) (r : Int) (h : ref29_form  a0 = some r) : CallP Tryd.prog glob 122 [(tI a0)] (tI r) := by
  refine call_of_code Tryd.func122 rfl Tryd.ntmps122 rfl (fun L w => ?_)
  change OkC _ _ _ [(0, (tI a0))] (L)
  unfold ref29_form at h
  refine okC_seq ?_
  refine okC_region ?_
  refine okL_step 2 (tI 0) rfl rfl (does_assign rfl) ?_
  refine okL_nil ?_
  refine okX_next ?_
  refine okC_seq ?_
  refine okC_seq ?_
  refine okC_region ?_
  refine okL_step 3 (tI a0) rfl rfl (does_move rfl) ?_
  refine okL_nil ?_
  refine okX_next ?_
  refine okC_block ?_
  obtain ⟨z3, h5, hz4⟩ := bs h
  refine okC_meet (X := Bool) (fun x => z3 = x) (fun x : Bool => [(0, (tI a0)), (3, (tI a0)), (4, (tB x))]) (fun x : Bool => L) ?_ ?_
  · refine okC_seq ?_
    refine okC_region ?_
    refine okL_step 5 (tB (a0 == 1)) rfl rfl (does_eql rfl rfl) ?_
    refine okL_step 4 (tB (a0 == 1)) rfl rfl (does_assign rfl) ?_
    refine okL_nil ?_
    refine okX_next ?_
    refine okC_cond (b := (a0 == 1)) rfl (fun hb6 => ?_) (fun hb6 => ?_)
    · replace h5 := ct hb6 h5
      refine okC_skip ?_
      exact okX_meet (I := _) (a0 == 1) (smh h5) (cc rfl (cc rfl (cc rfl cn))) rfl
    · replace h5 := cf hb6 h5
      refine okC_seq ?_
      refine okC_region ?_
      refine okL_step 6 (tB (a0 == 2)) rfl rfl (does_eql rfl rfl) ?_
      refine okL_step 4 (tB (a0 == 2)) rfl rfl (does_assign rfl) ?_
      refine okL_nil ?_
      refine okX_next ?_
      refine okC_cond (b := (a0 == 2)) rfl (fun hb7 => ?_) (fun hb7 => ?_)
      · replace h5 := ct hb7 h5
        refine okC_skip ?_
        exact okX_meet (I := _) (a0 == 2) (smh h5) (cc rfl (cc rfl (cc rfl cn))) rfl
      · replace h5 := cf hb7 h5
        refine okC_region ?_
        refine okL_step 7 (tB (a0 == 3)) rfl rfl (does_eql rfl rfl) ?_
        refine okL_step 4 (tB (a0 == 3)) rfl rfl (does_assign rfl) ?_
        refine okL_nil ?_
        exact okX_meet (I := _) (a0 == 3) (smh h5) (cc rfl (cc rfl (cc rfl cn))) rfl
  · intro s1 hx
    change OkC _ _ _ [(0, (tI a0)), (3, (tI a0)), (4, (tB s1))] (L)
    obtain rfl : s1 = z3 := hx.symm
    replace h := hz4
    refine okC_cond (b := s1) rfl (fun hb8 => ?_) (fun hb8 => ?_)
    · replace h := ct hb8 h
      refine okC_seq ?_
      refine okC_region ?_
      refine okL_step 2 (tI 1) rfl rfl (does_assign rfl) ?_
      refine okL_nil ?_
      refine okX_next ?_
      refine okC_ret ?_
      refine okX_block_ret ?_
      refine okX_then_ret ?_
      obtain rfl := (smh h).symm
      exact okX_ret1 () Tryd.results122 rfl rfl
    · replace h := cf hb8 h
      obtain ⟨z11, h13, hz12⟩ := bs h
      refine okC_meet (X := Bool) (fun x => z11 = x) (fun x : Bool => [(0, (tI a0)), (3, (tI a0)), (8, (tB x))]) (fun x : Bool => L) ?_ ?_
      · refine okC_seq ?_
        refine okC_region ?_
        refine okL_step 9 (tB (a0 == 4)) rfl rfl (does_eql rfl rfl) ?_
        refine okL_step 8 (tB (a0 == 4)) rfl rfl (does_assign rfl) ?_
        refine okL_nil ?_
        refine okX_next ?_
        refine okC_cond (b := (a0 == 4)) rfl (fun hb14 => ?_) (fun hb14 => ?_)
        · replace h13 := ct hb14 h13
          refine okC_skip ?_
          exact okX_meet (I := _) (a0 == 4) (smh h13) (cc rfl (cc rfl (cc rfl cn))) rfl
        · replace h13 := cf hb14 h13
          refine okC_region ?_
          refine okL_step 10 (tB (a0 == 5)) rfl rfl (does_eql rfl rfl) ?_
          refine okL_step 8 (tB (a0 == 5)) rfl rfl (does_assign rfl) ?_
          refine okL_nil ?_
          exact okX_meet (I := _) (a0 == 5) (smh h13) (cc rfl (cc rfl (cc rfl cn))) rfl
      · intro s9 hx
        change OkC _ _ _ [(0, (tI a0)), (3, (tI a0)), (8, (tB s9))] (L)
        obtain rfl : s9 = z11 := hx.symm
        replace h := hz12
        refine okC_cond (b := s9) rfl (fun hb15 => ?_) (fun hb15 => ?_)
        · replace h := ct hb15 h
          refine okC_seq ?_
          refine okC_region ?_
          refine okL_step 2 (tI 8) rfl rfl (does_assign rfl) ?_
          refine okL_nil ?_
          refine okX_next ?_
          refine okC_ret ?_
          refine okX_block_ret ?_
          refine okX_then_ret ?_
          obtain rfl := (smh h).symm
          exact okX_ret1 () Tryd.results122 rfl rfl
        · replace h := cf hb15 h
          obtain ⟨z18, h20, hz19⟩ := bs h
          refine okC_meet (X := Bool) (fun x => z18 = x) (fun x : Bool => [(0, (tI a0)), (3, (tI a0)), (11, (tB x))]) (fun x : Bool => L) ?_ ?_
          · refine okC_seq ?_
            refine okC_region ?_
            refine okL_step 12 (tB (a0 == 6)) rfl rfl (does_eql rfl rfl) ?_
            refine okL_step 11 (tB (a0 == 6)) rfl rfl (does_assign rfl) ?_
            refine okL_nil ?_
            refine okX_next ?_
            refine okC_cond (b := (a0 == 6)) rfl (fun hb21 => ?_) (fun hb21 => ?_)
            · replace h20 := ct hb21 h20
              refine okC_skip ?_
              exact okX_meet (I := _) (a0 == 6) (smh h20) (cc rfl (cc rfl (cc rfl cn))) rfl
            · replace h20 := cf hb21 h20
              refine okC_seq ?_
              refine okC_region ?_
              refine okL_step 13 (tB (a0 == 7)) rfl rfl (does_eql rfl rfl) ?_
              refine okL_step 11 (tB (a0 == 7)) rfl rfl (does_assign rfl) ?_
              refine okL_nil ?_
              refine okX_next ?_
              refine okC_cond (b := (a0 == 7)) rfl (fun hb22 => ?_) (fun hb22 => ?_)
              · replace h20 := ct hb22 h20
                refine okC_skip ?_
                exact okX_meet (I := _) (a0 == 7) (smh h20) (cc rfl (cc rfl (cc rfl cn))) rfl
              · replace h20 := cf hb22 h20
                refine okC_seq ?_
                refine okC_region ?_
                refine okL_step 14 (tB (a0 == 8)) rfl rfl (does_eql rfl rfl) ?_
                refine okL_step 11 (tB (a0 == 8)) rfl rfl (does_assign rfl) ?_
                refine okL_nil ?_
                refine okX_next ?_
                refine okC_cond (b := (a0 == 8)) rfl (fun hb23 => ?_) (fun hb23 => ?_)
                · replace h20 := ct hb23 h20
                  refine okC_skip ?_
                  exact okX_meet (I := _) (a0 == 8) (smh h20) (cc rfl (cc rfl (cc rfl cn))) rfl
                · replace h20 := cf hb23 h20
                  refine okC_seq ?_
                  refine okC_region ?_
                  refine okL_step 15 (tB (a0 == 13)) rfl rfl (does_eql rfl rfl) ?_
                  refine okL_step 11 (tB (a0 == 13)) rfl rfl (does_assign rfl) ?_
                  refine okL_nil ?_
                  refine okX_next ?_
                  refine okC_cond (b := (a0 == 13)) rfl (fun hb24 => ?_) (fun hb24 => ?_)
                  · replace h20 := ct hb24 h20
                    refine okC_skip ?_
                    exact okX_meet (I := _) (a0 == 13) (smh h20) (cc rfl (cc rfl (cc rfl cn))) rfl
                  · replace h20 := cf hb24 h20
                    refine okC_seq ?_
                    refine okC_region ?_
                    refine okL_step 16 (tB (a0 == 33)) rfl rfl (does_eql rfl rfl) ?_
                    refine okL_step 11 (tB (a0 == 33)) rfl rfl (does_assign rfl) ?_
                    refine okL_nil ?_
                    refine okX_next ?_
                    refine okC_cond (b := (a0 == 33)) rfl (fun hb25 => ?_) (fun hb25 => ?_)
                    · replace h20 := ct hb25 h20
                      refine okC_skip ?_
                      exact okX_meet (I := _) (a0 == 33) (smh h20) (cc rfl (cc rfl (cc rfl cn))) rfl
                    · replace h20 := cf hb25 h20
                      refine okC_seq ?_
                      refine okC_region ?_
                      refine okL_step 17 (tB (a0 == 36)) rfl rfl (does_eql rfl rfl) ?_
                      refine okL_step 11 (tB (a0 == 36)) rfl rfl (does_assign rfl) ?_
                      refine okL_nil ?_
                      refine okX_next ?_
                      refine okC_cond (b := (a0 == 36)) rfl (fun hb26 => ?_) (fun hb26 => ?_)
                      · replace h20 := ct hb26 h20
                        refine okC_skip ?_
                        exact okX_meet (I := _) (a0 == 36) (smh h20) (cc rfl (cc rfl (cc rfl cn))) rfl
                      · replace h20 := cf hb26 h20
                        refine okC_region ?_
                        refine okL_step 18 (tB (a0 == 37)) rfl rfl (does_eql rfl rfl) ?_
                        refine okL_step 11 (tB (a0 == 37)) rfl rfl (does_assign rfl) ?_
                        refine okL_nil ?_
                        exact okX_meet (I := _) (a0 == 37) (smh h20) (cc rfl (cc rfl (cc rfl cn))) rfl
          · intro s16 hx
            change OkC _ _ _ [(0, (tI a0)), (3, (tI a0)), (11, (tB s16))] (L)
            obtain rfl : s16 = z18 := hx.symm
            replace h := hz19
            refine okC_cond (b := s16) rfl (fun hb27 => ?_) (fun hb27 => ?_)
            · replace h := ct hb27 h
              refine okC_seq ?_
              refine okC_region ?_
              refine okL_step 2 (tI 5) rfl rfl (does_assign rfl) ?_
              refine okL_nil ?_
              refine okX_next ?_
              refine okC_ret ?_
              refine okX_block_ret ?_
              refine okX_then_ret ?_
              obtain rfl := (smh h).symm
              exact okX_ret1 () Tryd.results122 rfl rfl
            · replace h := cf hb27 h
              obtain ⟨z30, h32, hz31⟩ := bs h
              refine okC_meet (X := Bool) (fun x => z30 = x) (fun x : Bool => [(0, (tI a0)), (3, (tI a0)), (19, (tB x))]) (fun x : Bool => L) ?_ ?_
              · refine okC_seq ?_
                refine okC_region ?_
                refine okL_step 20 (tB (a0 == 9)) rfl rfl (does_eql rfl rfl) ?_
                refine okL_step 19 (tB (a0 == 9)) rfl rfl (does_assign rfl) ?_
                refine okL_nil ?_
                refine okX_next ?_
                refine okC_cond (b := (a0 == 9)) rfl (fun hb33 => ?_) (fun hb33 => ?_)
                · replace h32 := ct hb33 h32
                  refine okC_skip ?_
                  exact okX_meet (I := _) (a0 == 9) (smh h32) (cc rfl (cc rfl (cc rfl cn))) rfl
                · replace h32 := cf hb33 h32
                  refine okC_seq ?_
                  refine okC_region ?_
                  refine okL_step 21 (tB (a0 == 15)) rfl rfl (does_eql rfl rfl) ?_
                  refine okL_step 19 (tB (a0 == 15)) rfl rfl (does_assign rfl) ?_
                  refine okL_nil ?_
                  refine okX_next ?_
                  refine okC_cond (b := (a0 == 15)) rfl (fun hb34 => ?_) (fun hb34 => ?_)
                  · replace h32 := ct hb34 h32
                    refine okC_skip ?_
                    exact okX_meet (I := _) (a0 == 15) (smh h32) (cc rfl (cc rfl (cc rfl cn))) rfl
                  · replace h32 := cf hb34 h32
                    refine okC_region ?_
                    refine okL_step 22 (tB (a0 == 16)) rfl rfl (does_eql rfl rfl) ?_
                    refine okL_step 19 (tB (a0 == 16)) rfl rfl (does_assign rfl) ?_
                    refine okL_nil ?_
                    exact okX_meet (I := _) (a0 == 16) (smh h32) (cc rfl (cc rfl (cc rfl cn))) rfl
              · intro s28 hx
                change OkC _ _ _ [(0, (tI a0)), (3, (tI a0)), (19, (tB s28))] (L)
                obtain rfl : s28 = z30 := hx.symm
                replace h := hz31
                refine okC_cond (b := s28) rfl (fun hb35 => ?_) (fun hb35 => ?_)
                · replace h := ct hb35 h
                  refine okC_seq ?_
                  refine okC_region ?_
                  refine okL_step 2 (tI 2) rfl rfl (does_assign rfl) ?_
                  refine okL_nil ?_
                  refine okX_next ?_
                  refine okC_ret ?_
                  refine okX_block_ret ?_
                  refine okX_then_ret ?_
                  obtain rfl := (smh h).symm
                  exact okX_ret1 () Tryd.results122 rfl rfl
                · replace h := cf hb35 h
                  obtain ⟨z38, h40, hz39⟩ := bs h
                  refine okC_meet (X := Bool) (fun x => z38 = x) (fun x : Bool => [(0, (tI a0)), (3, (tI a0)), (23, (tB x))]) (fun x : Bool => L) ?_ ?_
                  · refine okC_seq ?_
                    refine okC_region ?_
                    refine okL_step 24 (tB (a0 == 11)) rfl rfl (does_eql rfl rfl) ?_
                    refine okL_step 23 (tB (a0 == 11)) rfl rfl (does_assign rfl) ?_
                    refine okL_nil ?_
                    refine okX_next ?_
                    refine okC_cond (b := (a0 == 11)) rfl (fun hb41 => ?_) (fun hb41 => ?_)
                    · replace h40 := ct hb41 h40
                      refine okC_skip ?_
                      exact okX_meet (I := _) (a0 == 11) (smh h40) (cc rfl (cc rfl (cc rfl cn))) rfl
                    · replace h40 := cf hb41 h40
                      refine okC_region ?_
                      refine okL_step 25 (tB (a0 == 12)) rfl rfl (does_eql rfl rfl) ?_
                      refine okL_step 23 (tB (a0 == 12)) rfl rfl (does_assign rfl) ?_
                      refine okL_nil ?_
                      exact okX_meet (I := _) (a0 == 12) (smh h40) (cc rfl (cc rfl (cc rfl cn))) rfl
                  · intro s36 hx
                    change OkC _ _ _ [(0, (tI a0)), (3, (tI a0)), (23, (tB s36))] (L)
                    obtain rfl : s36 = z38 := hx.symm
                    replace h := hz39
                    refine okC_cond (b := s36) rfl (fun hb42 => ?_) (fun hb42 => ?_)
                    · replace h := ct hb42 h
                      refine okC_seq ?_
                      refine okC_region ?_
                      refine okL_step 2 (tI 4) rfl rfl (does_assign rfl) ?_
                      refine okL_nil ?_
                      refine okX_next ?_
                      refine okC_ret ?_
                      refine okX_block_ret ?_
                      refine okX_then_ret ?_
                      obtain rfl := (smh h).symm
                      exact okX_ret1 () Tryd.results122 rfl rfl
                    · replace h := cf hb42 h
                      refine okC_seq ?_
                      refine okC_region ?_
                      refine okL_step 27 (tB (a0 == 14)) rfl rfl (does_eql rfl rfl) ?_
                      refine okL_step 26 (tB (a0 == 14)) rfl rfl (does_assign rfl) ?_
                      refine okL_nil ?_
                      refine okX_next ?_
                      refine okC_cond (b := (a0 == 14)) rfl (fun hb43 => ?_) (fun hb43 => ?_)
                      · replace h := ct hb43 h
                        refine okC_seq ?_
                        refine okC_region ?_
                        refine okL_step 2 (tI 6) rfl rfl (does_assign rfl) ?_
                        refine okL_nil ?_
                        refine okX_next ?_
                        refine okC_ret ?_
                        refine okX_block_ret ?_
                        refine okX_then_ret ?_
                        obtain rfl := (smh h).symm
                        exact okX_ret1 () Tryd.results122 rfl rfl
                      · replace h := cf hb43 h
                        obtain ⟨z46, h48, hz47⟩ := bs h
                        refine okC_meet (X := Bool) (fun x => z46 = x) (fun x : Bool => [(0, (tI a0)), (28, (tB x))]) (fun x : Bool => L) ?_ ?_
                        · refine okC_seq ?_
                          refine okC_region ?_
                          refine okL_step 29 (tB (a0 == 34)) rfl rfl (does_eql rfl rfl) ?_
                          refine okL_step 28 (tB (a0 == 34)) rfl rfl (does_assign rfl) ?_
                          refine okL_nil ?_
                          refine okX_next ?_
                          refine okC_cond (b := (a0 == 34)) rfl (fun hb49 => ?_) (fun hb49 => ?_)
                          · replace h48 := ct hb49 h48
                            refine okC_skip ?_
                            exact okX_meet (I := _) (a0 == 34) (smh h48) (cc rfl (cc rfl cn)) rfl
                          · replace h48 := cf hb49 h48
                            refine okC_region ?_
                            refine okL_step 30 (tB (a0 == 35)) rfl rfl (does_eql rfl rfl) ?_
                            refine okL_step 28 (tB (a0 == 35)) rfl rfl (does_assign rfl) ?_
                            refine okL_nil ?_
                            exact okX_meet (I := _) (a0 == 35) (smh h48) (cc rfl (cc rfl cn)) rfl
                        · intro s44 hx
                          change OkC _ _ _ [(0, (tI a0)), (28, (tB s44))] (L)
                          obtain rfl : s44 = z46 := hx.symm
                          replace h := hz47
                          refine okC_cond (b := s44) rfl (fun hb50 => ?_) (fun hb50 => ?_)
                          · replace h := ct hb50 h
                            refine okC_seq ?_
                            refine okC_region ?_
                            refine okL_step 2 (tI 7) rfl rfl (does_assign rfl) ?_
                            refine okL_nil ?_
                            refine okX_next ?_
                            refine okC_ret ?_
                            refine okX_block_ret ?_
                            refine okX_then_ret ?_
                            obtain rfl := (smh h).symm
                            exact okX_ret1 () Tryd.results122 rfl rfl
                          · replace h := cf hb50 h
                            refine okC_skip ?_
                            refine okX_block_normal ?_
                            refine okX_next ?_
                            refine okC_seq ?_
                            refine okC_seq ?_
                            refine okC_region ?_
                            refine okL_step 31 (tI a0) rfl rfl (does_move rfl) ?_
                            refine okL_step 32 (tB (a0 == 10)) rfl rfl (does_eql rfl rfl) ?_
                            refine okL_step 33 (tB (a0 == 10)) rfl rfl (does_move rfl) ?_
                            obtain ⟨z52, h54, hz53⟩ := bs h
                            refine okL_meet (X := Bool) 3 (fun x => z52 = x) (fun x : Bool => [(36, (tB x))]) (fun x : Bool => L) _ rfl ?_ ?_
                            · refine okL_split (a0 == 10) (fun hb51 => ?_) (fun hb51 => ?_)
                              · replace h54 := ct hb51 h54
                                refine okL_skip 34 33 (a0 == 10) rfl rfl hb51 rfl rfl ?_
                                refine okL_skip 35 33 (a0 == 10) rfl rfl hb51 rfl rfl ?_
                                refine okL_step 36 (tB true) rfl rfl (does_pick_t (a0 == 10) rfl hb51 rfl) ?_
                                refine okL_nil ?_
                                exact okX_meet (I := _) true (smh h54) (cc rfl cn) rfl
                              · replace h54 := cf hb51 h54
                                refine okL_guard 34 (tI a0) 33 (a0 == 10) rfl rfl hb51 rfl rfl (does_move rfl) ?_
                                obtain ⟨r56, hc57, h54⟩ := bs h54
                                refine okL_guard 35 (tB r56) 33 (a0 == 10) rfl rfl hb51 rfl rfl (does_call0 (c_ref29_IsBinary a0 r56 hc57) rfl Tryd.call124 rfl) ?_
                                refine okL_step 36 (tB r56) rfl rfl (does_pick_f (a0 == 10) rfl hb51 rfl) ?_
                                refine okL_nil ?_
                                exact okX_meet (I := _) r56 (smh h54) (cc rfl cn) rfl
                            · intro x55 hx
                              obtain rfl : x55 = z52 := hx.symm
                              replace h := hz53
                              change OkL _ _ _ _ [(36, (tB x55))] (L)
                              refine okL_nil ?_
                              refine okX_next ?_
                              refine okC_cond (b := x55) rfl (fun hb58 => ?_) (fun hb58 => ?_)
                              · replace h := ct hb58 h
                                refine okC_seq ?_
                                refine okC_region ?_
                                refine okL_step 2 (tI 3) rfl rfl (does_assign rfl) ?_
                                refine okL_nil ?_
                                refine okX_next ?_
                                refine okC_ret ?_
                                refine okX_then_ret ?_
                                obtain rfl := (smh h).symm
                                exact okX_ret1 () Tryd.results122 rfl rfl
                              · replace h := cf hb58 h
                                refine okC_skip ?_
                                refine okX_next ?_
                                refine okC_seq ?_
                                refine okC_region ?_
                                refine okL_step 2 (tI 0) rfl rfl (does_assign rfl) ?_
                                refine okL_nil ?_
                                refine okX_next ?_
                                refine okC_ret ?_
                                obtain rfl := (smh h).symm
                                exact okX_ret1 () Tryd.results122 rfl rfl

def ref29_names  : Option (List ByteArray) :=
  (some ([(⟨#[]⟩ : ByteArray), (⟨#[110, 111, 112]⟩ : ByteArray), (⟨#[114, 101, 116]⟩ : ByteArray), (⟨#[116, 105, 99, 107]⟩ : ByteArray), (⟨#[116, 114, 97, 112]⟩ : ByteArray), (⟨#[106, 109, 112]⟩ : ByteArray), (⟨#[99, 97, 108, 108]⟩ : ByteArray), (⟨#[106, 122]⟩ : ByteArray), (⟨#[106, 110, 122]⟩ : ByteArray), (⟨#[111, 117, 116]⟩ : ByteArray), (⟨#[109, 111, 118]⟩ : ByteArray), (⟨#[99, 109, 111, 118, 122]⟩ : ByteArray), (⟨#[99, 109, 111, 118, 110, 122]⟩ : ByteArray), (⟨#[108, 100, 105]⟩ : ByteArray), (⟨#[108, 100, 99]⟩ : ByteArray), (⟨#[110, 101, 103]⟩ : ByteArray), (⟨#[110, 111, 116]⟩ : ByteArray), (⟨#[97, 100, 100]⟩ : ByteArray), (⟨#[115, 117, 98]⟩ : ByteArray), (⟨#[109, 117, 108]⟩ : ByteArray), (⟨#[100, 105, 118]⟩ : ByteArray), (⟨#[114, 101, 109]⟩ : ByteArray), (⟨#[97, 110, 100]⟩ : ByteArray), (⟨#[111, 114]⟩ : ByteArray), (⟨#[120, 111, 114]⟩ : ByteArray), (⟨#[115, 104, 108]⟩ : ByteArray), (⟨#[115, 104, 114]⟩ : ByteArray), (⟨#[115, 97, 114]⟩ : ByteArray), (⟨#[101, 113]⟩ : ByteArray), (⟨#[110, 101]⟩ : ByteArray), (⟨#[108, 116]⟩ : ByteArray), (⟨#[108, 101]⟩ : ByteArray), (⟨#[108, 116, 117]⟩ : ByteArray), (⟨#[97, 100, 100, 105]⟩ : ByteArray), (⟨#[108, 100]⟩ : ByteArray), (⟨#[115, 116]⟩ : ByteArray), (⟨#[108, 100, 115]⟩ : ByteArray), (⟨#[115, 116, 115]⟩ : ByteArray)] : List ByteArray))

theorem c_ref29_names  (r : (List ByteArray)) (h : ref29_names  = some r) : CallP Tryd.prog glob 123 [] (tL 1 lS r) := by
  refine call_of_code Tryd.func123 rfl Tryd.ntmps123 rfl (fun L w => ?_)
  change OkC _ _ _ [] (L)
  unfold ref29_names at h
  refine okC_seq ?_
  refine okC_region ?_
  refine okL_step 0 (Ty.val (.slice none 0 0)) rfl rfl (does_assign rfl) ?_
  refine okL_nil ?_
  refine okX_next ?_
  refine okC_seq ?_
  refine okC_region ?_
  refine okL_step 1 (tL 1 lS ([(⟨#[]⟩ : ByteArray), (⟨#[110, 111, 112]⟩ : ByteArray), (⟨#[114, 101, 116]⟩ : ByteArray), (⟨#[116, 105, 99, 107]⟩ : ByteArray), (⟨#[116, 114, 97, 112]⟩ : ByteArray), (⟨#[106, 109, 112]⟩ : ByteArray), (⟨#[99, 97, 108, 108]⟩ : ByteArray), (⟨#[106, 122]⟩ : ByteArray), (⟨#[106, 110, 122]⟩ : ByteArray), (⟨#[111, 117, 116]⟩ : ByteArray), (⟨#[109, 111, 118]⟩ : ByteArray), (⟨#[99, 109, 111, 118, 122]⟩ : ByteArray), (⟨#[99, 109, 111, 118, 110, 122]⟩ : ByteArray), (⟨#[108, 100, 105]⟩ : ByteArray), (⟨#[108, 100, 99]⟩ : ByteArray), (⟨#[110, 101, 103]⟩ : ByteArray), (⟨#[110, 111, 116]⟩ : ByteArray), (⟨#[97, 100, 100]⟩ : ByteArray), (⟨#[115, 117, 98]⟩ : ByteArray), (⟨#[109, 117, 108]⟩ : ByteArray), (⟨#[100, 105, 118]⟩ : ByteArray), (⟨#[114, 101, 109]⟩ : ByteArray), (⟨#[97, 110, 100]⟩ : ByteArray), (⟨#[111, 114]⟩ : ByteArray), (⟨#[120, 111, 114]⟩ : ByteArray), (⟨#[115, 104, 108]⟩ : ByteArray), (⟨#[115, 104, 114]⟩ : ByteArray), (⟨#[115, 97, 114]⟩ : ByteArray), (⟨#[101, 113]⟩ : ByteArray), (⟨#[110, 101]⟩ : ByteArray), (⟨#[108, 116]⟩ : ByteArray), (⟨#[108, 101]⟩ : ByteArray), (⟨#[108, 116, 117]⟩ : ByteArray), (⟨#[97, 100, 100, 105]⟩ : ByteArray), (⟨#[108, 100]⟩ : ByteArray), (⟨#[115, 116]⟩ : ByteArray), (⟨#[108, 100, 115]⟩ : ByteArray), (⟨#[115, 116, 115]⟩ : ByteArray)] : List ByteArray)) rfl rfl (does_buildSlice (f := lS) ([(⟨#[]⟩ : ByteArray), (⟨#[110, 111, 112]⟩ : ByteArray), (⟨#[114, 101, 116]⟩ : ByteArray), (⟨#[116, 105, 99, 107]⟩ : ByteArray), (⟨#[116, 114, 97, 112]⟩ : ByteArray), (⟨#[106, 109, 112]⟩ : ByteArray), (⟨#[99, 97, 108, 108]⟩ : ByteArray), (⟨#[106, 122]⟩ : ByteArray), (⟨#[106, 110, 122]⟩ : ByteArray), (⟨#[111, 117, 116]⟩ : ByteArray), (⟨#[109, 111, 118]⟩ : ByteArray), (⟨#[99, 109, 111, 118, 122]⟩ : ByteArray), (⟨#[99, 109, 111, 118, 110, 122]⟩ : ByteArray), (⟨#[108, 100, 105]⟩ : ByteArray), (⟨#[108, 100, 99]⟩ : ByteArray), (⟨#[110, 101, 103]⟩ : ByteArray), (⟨#[110, 111, 116]⟩ : ByteArray), (⟨#[97, 100, 100]⟩ : ByteArray), (⟨#[115, 117, 98]⟩ : ByteArray), (⟨#[109, 117, 108]⟩ : ByteArray), (⟨#[100, 105, 118]⟩ : ByteArray), (⟨#[114, 101, 109]⟩ : ByteArray), (⟨#[97, 110, 100]⟩ : ByteArray), (⟨#[111, 114]⟩ : ByteArray), (⟨#[120, 111, 114]⟩ : ByteArray), (⟨#[115, 104, 108]⟩ : ByteArray), (⟨#[115, 104, 114]⟩ : ByteArray), (⟨#[115, 97, 114]⟩ : ByteArray), (⟨#[101, 113]⟩ : ByteArray), (⟨#[110, 101]⟩ : ByteArray), (⟨#[108, 116]⟩ : ByteArray), (⟨#[108, 101]⟩ : ByteArray), (⟨#[108, 116, 117]⟩ : ByteArray), (⟨#[97, 100, 100, 105]⟩ : ByteArray), (⟨#[108, 100]⟩ : ByteArray), (⟨#[115, 116]⟩ : ByteArray), (⟨#[108, 100, 115]⟩ : ByteArray), (⟨#[115, 116, 115]⟩ : ByteArray)] : List ByteArray) [(tS (⟨#[]⟩ : ByteArray)), (tS (⟨#[110, 111, 112]⟩ : ByteArray)), (tS (⟨#[114, 101, 116]⟩ : ByteArray)), (tS (⟨#[116, 105, 99, 107]⟩ : ByteArray)), (tS (⟨#[116, 114, 97, 112]⟩ : ByteArray)), (tS (⟨#[106, 109, 112]⟩ : ByteArray)), (tS (⟨#[99, 97, 108, 108]⟩ : ByteArray)), (tS (⟨#[106, 122]⟩ : ByteArray)), (tS (⟨#[106, 110, 122]⟩ : ByteArray)), (tS (⟨#[111, 117, 116]⟩ : ByteArray)), (tS (⟨#[109, 111, 118]⟩ : ByteArray)), (tS (⟨#[99, 109, 111, 118, 122]⟩ : ByteArray)), (tS (⟨#[99, 109, 111, 118, 110, 122]⟩ : ByteArray)), (tS (⟨#[108, 100, 105]⟩ : ByteArray)), (tS (⟨#[108, 100, 99]⟩ : ByteArray)), (tS (⟨#[110, 101, 103]⟩ : ByteArray)), (tS (⟨#[110, 111, 116]⟩ : ByteArray)), (tS (⟨#[97, 100, 100]⟩ : ByteArray)), (tS (⟨#[115, 117, 98]⟩ : ByteArray)), (tS (⟨#[109, 117, 108]⟩ : ByteArray)), (tS (⟨#[100, 105, 118]⟩ : ByteArray)), (tS (⟨#[114, 101, 109]⟩ : ByteArray)), (tS (⟨#[97, 110, 100]⟩ : ByteArray)), (tS (⟨#[111, 114]⟩ : ByteArray)), (tS (⟨#[120, 111, 114]⟩ : ByteArray)), (tS (⟨#[115, 104, 108]⟩ : ByteArray)), (tS (⟨#[115, 104, 114]⟩ : ByteArray)), (tS (⟨#[115, 97, 114]⟩ : ByteArray)), (tS (⟨#[101, 113]⟩ : ByteArray)), (tS (⟨#[110, 101]⟩ : ByteArray)), (tS (⟨#[108, 116]⟩ : ByteArray)), (tS (⟨#[108, 101]⟩ : ByteArray)), (tS (⟨#[108, 116, 117]⟩ : ByteArray)), (tS (⟨#[97, 100, 100, 105]⟩ : ByteArray)), (tS (⟨#[108, 100]⟩ : ByteArray)), (tS (⟨#[115, 116]⟩ : ByteArray)), (tS (⟨#[108, 100, 115]⟩ : ByteArray)), (tS (⟨#[115, 116, 115]⟩ : ByteArray))] el156 rfl rfl rfl (fc [(tS (⟨#[]⟩ : ByteArray))] 0 rfl (part_one (one_s _)) rfl rfl (fc [(tS (⟨#[110, 111, 112]⟩ : ByteArray))] 1 rfl (part_one (one_s _)) rfl rfl (fc [(tS (⟨#[114, 101, 116]⟩ : ByteArray))] 2 rfl (part_one (one_s _)) rfl rfl (fc [(tS (⟨#[116, 105, 99, 107]⟩ : ByteArray))] 3 rfl (part_one (one_s _)) rfl rfl (fc [(tS (⟨#[116, 114, 97, 112]⟩ : ByteArray))] 4 rfl (part_one (one_s _)) rfl rfl (fc [(tS (⟨#[106, 109, 112]⟩ : ByteArray))] 5 rfl (part_one (one_s _)) rfl rfl (fc [(tS (⟨#[99, 97, 108, 108]⟩ : ByteArray))] 6 rfl (part_one (one_s _)) rfl rfl (fc [(tS (⟨#[106, 122]⟩ : ByteArray))] 7 rfl (part_one (one_s _)) rfl rfl (fc [(tS (⟨#[106, 110, 122]⟩ : ByteArray))] 8 rfl (part_one (one_s _)) rfl rfl (fc [(tS (⟨#[111, 117, 116]⟩ : ByteArray))] 9 rfl (part_one (one_s _)) rfl rfl (fc [(tS (⟨#[109, 111, 118]⟩ : ByteArray))] 10 rfl (part_one (one_s _)) rfl rfl (fc [(tS (⟨#[99, 109, 111, 118, 122]⟩ : ByteArray))] 11 rfl (part_one (one_s _)) rfl rfl (fc [(tS (⟨#[99, 109, 111, 118, 110, 122]⟩ : ByteArray))] 12 rfl (part_one (one_s _)) rfl rfl (fc [(tS (⟨#[108, 100, 105]⟩ : ByteArray))] 13 rfl (part_one (one_s _)) rfl rfl (fc [(tS (⟨#[108, 100, 99]⟩ : ByteArray))] 14 rfl (part_one (one_s _)) rfl rfl (fc [(tS (⟨#[110, 101, 103]⟩ : ByteArray))] 15 rfl (part_one (one_s _)) rfl rfl (fc [(tS (⟨#[110, 111, 116]⟩ : ByteArray))] 16 rfl (part_one (one_s _)) rfl rfl (fc [(tS (⟨#[97, 100, 100]⟩ : ByteArray))] 17 rfl (part_one (one_s _)) rfl rfl (fc [(tS (⟨#[115, 117, 98]⟩ : ByteArray))] 18 rfl (part_one (one_s _)) rfl rfl (fc [(tS (⟨#[109, 117, 108]⟩ : ByteArray))] 19 rfl (part_one (one_s _)) rfl rfl (fc [(tS (⟨#[100, 105, 118]⟩ : ByteArray))] 20 rfl (part_one (one_s _)) rfl rfl (fc [(tS (⟨#[114, 101, 109]⟩ : ByteArray))] 21 rfl (part_one (one_s _)) rfl rfl (fc [(tS (⟨#[97, 110, 100]⟩ : ByteArray))] 22 rfl (part_one (one_s _)) rfl rfl (fc [(tS (⟨#[111, 114]⟩ : ByteArray))] 23 rfl (part_one (one_s _)) rfl rfl (fc [(tS (⟨#[120, 111, 114]⟩ : ByteArray))] 24 rfl (part_one (one_s _)) rfl rfl (fc [(tS (⟨#[115, 104, 108]⟩ : ByteArray))] 25 rfl (part_one (one_s _)) rfl rfl (fc [(tS (⟨#[115, 104, 114]⟩ : ByteArray))] 26 rfl (part_one (one_s _)) rfl rfl (fc [(tS (⟨#[115, 97, 114]⟩ : ByteArray))] 27 rfl (part_one (one_s _)) rfl rfl (fc [(tS (⟨#[101, 113]⟩ : ByteArray))] 28 rfl (part_one (one_s _)) rfl rfl (fc [(tS (⟨#[110, 101]⟩ : ByteArray))] 29 rfl (part_one (one_s _)) rfl rfl (fc [(tS (⟨#[108, 116]⟩ : ByteArray))] 30 rfl (part_one (one_s _)) rfl rfl (fc [(tS (⟨#[108, 101]⟩ : ByteArray))] 31 rfl (part_one (one_s _)) rfl rfl (fc [(tS (⟨#[108, 116, 117]⟩ : ByteArray))] 32 rfl (part_one (one_s _)) rfl rfl (fc [(tS (⟨#[97, 100, 100, 105]⟩ : ByteArray))] 33 rfl (part_one (one_s _)) rfl rfl (fc [(tS (⟨#[108, 100]⟩ : ByteArray))] 34 rfl (part_one (one_s _)) rfl rfl (fc [(tS (⟨#[115, 116]⟩ : ByteArray))] 35 rfl (part_one (one_s _)) rfl rfl (fc [(tS (⟨#[108, 100, 115]⟩ : ByteArray))] 36 rfl (part_one (one_s _)) rfl rfl (fc [(tS (⟨#[115, 116, 115]⟩ : ByteArray))] 37 rfl (part_one (one_s _)) rfl rfl (fn_ rfl))))))))))))))))))))))))))))))))))))))) rfl (fun _ => rfl)) ?_
  refine okL_step 0 (tL 1 lS ([(⟨#[]⟩ : ByteArray), (⟨#[110, 111, 112]⟩ : ByteArray), (⟨#[114, 101, 116]⟩ : ByteArray), (⟨#[116, 105, 99, 107]⟩ : ByteArray), (⟨#[116, 114, 97, 112]⟩ : ByteArray), (⟨#[106, 109, 112]⟩ : ByteArray), (⟨#[99, 97, 108, 108]⟩ : ByteArray), (⟨#[106, 122]⟩ : ByteArray), (⟨#[106, 110, 122]⟩ : ByteArray), (⟨#[111, 117, 116]⟩ : ByteArray), (⟨#[109, 111, 118]⟩ : ByteArray), (⟨#[99, 109, 111, 118, 122]⟩ : ByteArray), (⟨#[99, 109, 111, 118, 110, 122]⟩ : ByteArray), (⟨#[108, 100, 105]⟩ : ByteArray), (⟨#[108, 100, 99]⟩ : ByteArray), (⟨#[110, 101, 103]⟩ : ByteArray), (⟨#[110, 111, 116]⟩ : ByteArray), (⟨#[97, 100, 100]⟩ : ByteArray), (⟨#[115, 117, 98]⟩ : ByteArray), (⟨#[109, 117, 108]⟩ : ByteArray), (⟨#[100, 105, 118]⟩ : ByteArray), (⟨#[114, 101, 109]⟩ : ByteArray), (⟨#[97, 110, 100]⟩ : ByteArray), (⟨#[111, 114]⟩ : ByteArray), (⟨#[120, 111, 114]⟩ : ByteArray), (⟨#[115, 104, 108]⟩ : ByteArray), (⟨#[115, 104, 114]⟩ : ByteArray), (⟨#[115, 97, 114]⟩ : ByteArray), (⟨#[101, 113]⟩ : ByteArray), (⟨#[110, 101]⟩ : ByteArray), (⟨#[108, 116]⟩ : ByteArray), (⟨#[108, 101]⟩ : ByteArray), (⟨#[108, 116, 117]⟩ : ByteArray), (⟨#[97, 100, 100, 105]⟩ : ByteArray), (⟨#[108, 100]⟩ : ByteArray), (⟨#[115, 116]⟩ : ByteArray), (⟨#[108, 100, 115]⟩ : ByteArray), (⟨#[115, 116, 115]⟩ : ByteArray)] : List ByteArray)) rfl rfl (does_assign rfl) ?_
  refine okL_nil ?_
  refine okX_next ?_
  refine okC_ret ?_
  obtain rfl := (smh h).symm
  exact okX_ret1 () Tryd.results123 rfl rfl

def ref32_Successors (K : Nat) (a0 : Block) : Option (List Int) :=
  (cnd (a0.End == 1) (some ([a0.Target] : List Int)) (cnd (a0.End == 2) (Option.bind (ref29_Insert K ([a0.Target] : List Int) a0.Else) (fun r4 => (some r4))) (some ([] : List Int))))

def ref32_Union_l1 (K : Nat) (a1 : (List Int)) : Nat → ((List Int) × Int) → Option (List Int)
  | 0, _ => none
  | k + 1, s9 => (cnd (decide (s9.2 < ((a1).length : Int))) (Option.bind (idx a1 s9.2) (fun y12 => (Option.bind (ref29_Insert K s9.1 y12) (fun r14 => (ref32_Union_l1 K a1 k (r14, (w64 (s9.2 + 1)))))))) (some s9.1))

def ref32_Union (K : Nat) (a0 : (List Int)) (a1 : (List Int)) : Option (List Int) :=
  (Option.bind (app 8 [] a0) (fun l1 => (Option.bind (ref32_Union_l1 K a1 K (l1, 0)) (fun s4 => (some s4)))))

def liveness_addTerminator  (a0 : (List Int)) (a1 : Block) : Option (List Int) :=
  (cnd ((a1.End == 2) || (a1.End == 3)) (Option.bind (liveness_set_add a0 a1.Reg) (fun r4 => (some r4))) (some a0))

theorem c_liveness_addTerminator  (a0 : (List Int)) (a1 : Block) (v0 : Value) (r : (List Int)) (h : liveness_addTerminator  a0 a1 = some r) : CallOk Tryd.prog glob 67 [(Ty.own v0), (Ty.agg [(tL 6 VInstr.ty a1.Instrs), (tI a1.End), (tI a1.Reg), (tI a1.Target), (tI a1.Else)])] [rowL v0 137 1 lU a0] Unit (fun _ : Unit => ((Ty.tup []), [rowL v0 137 1 lU r])) := by
  refine call_of_code Tryd.func67 rfl Tryd.ntmps67 rfl (fun L w => ?_)
  change OkC _ _ _ [(0, (Ty.own v0)), (1, (Ty.agg [(tL 6 VInstr.ty a1.Instrs), (tI a1.End), (tI a1.Reg), (tI a1.Target), (tI a1.Else)]))] (rowL v0 137 1 lU a0 :: L)
  unfold liveness_addTerminator at h
  refine okC_seq ?_
  refine okC_region ?_
  refine okL_stepO 3 rfl rfl (doesO_box [(tL 6 VInstr.ty a1.Instrs), (tI a1.End), (tI a1.Reg), (tI a1.Target), (tI a1.Else)] rfl (part_agg _) (fun g1 => ?_))
  refine okL_nil ?_
  refine okX_next ?_
  refine okC_seq ?_
  refine okC_region ?_
  refine okL_step 4 (pAt g1 1) rfl rfl (does_fieldAddrP 1 Tryd.underlying43 rfl Tryd.sizeOf3 rfl rfl) ?_
  refine okL_step 5 (tI a1.End) rfl rfl (does_loadB1 Tryd.isAgg3 rfl 0 rfl rfl) ?_
  refine okL_step 6 (tB (a1.End == 2)) rfl rfl (does_eql rfl rfl) ?_
  refine okL_step 7 (tB (a1.End == 2)) rfl rfl (does_move rfl) ?_
  refine okL_meet (X := Bool) 4 (fun x => x = ((a1.End == 2) || (a1.End == 3))) (fun x : Bool => [(0, (Ty.own v0)), (3, (pAt g1 0)), (11, (tB x))]) (fun x : Bool => Item.blk g1 43 [(tL 6 VInstr.ty a1.Instrs), (tI a1.End), (tI a1.Reg), (tI a1.Target), (tI a1.Else)] :: rowL v0 137 1 lU a0 :: L) _ rfl ?_ ?_
  · refine okL_split (a1.End == 2) (fun hb2 => ?_) (fun hb2 => ?_)
    · refine okL_skip 8 7 (a1.End == 2) rfl rfl hb2 rfl rfl ?_
      refine okL_skip 9 7 (a1.End == 2) rfl rfl hb2 rfl rfl ?_
      refine okL_skip 10 7 (a1.End == 2) rfl rfl hb2 rfl rfl ?_
      refine okL_step 11 (tB true) rfl rfl (does_pick_t (a1.End == 2) rfl hb2 rfl) ?_
      refine okL_nil ?_
      exact okX_meet (I := _) true (or_t hb2) (cc rfl (cc rfl (cc rfl cn))) rfl
    · refine okL_guard 8 (pAt g1 1) 7 (a1.End == 2) rfl rfl hb2 rfl rfl (does_fieldAddrP 1 Tryd.underlying43 rfl Tryd.sizeOf3 rfl rfl) ?_
      refine okL_guard 9 (tI a1.End) 7 (a1.End == 2) rfl rfl hb2 rfl rfl (does_loadB1 Tryd.isAgg3 rfl 0 rfl rfl) ?_
      refine okL_guard 10 (tB (a1.End == 3)) 7 (a1.End == 2) rfl rfl hb2 rfl rfl (does_eql rfl rfl) ?_
      refine okL_step 11 (tB (a1.End == 3)) rfl rfl (does_pick_f (a1.End == 2) rfl hb2 rfl) ?_
      refine okL_nil ?_
      exact okX_meet (I := _) (a1.End == 3) (or_f hb2) (cc rfl (cc rfl (cc rfl cn))) rfl
  · intro x6 hx
    subst hx
    change OkL _ _ _ _ [(0, (Ty.own v0)), (3, (pAt g1 0)), (11, (tB ((a1.End == 2) || (a1.End == 3))))] (Item.blk g1 43 [(tL 6 VInstr.ty a1.Instrs), (tI a1.End), (tI a1.Reg), (tI a1.Target), (tI a1.Else)] :: rowL v0 137 1 lU a0 :: L)
    refine okL_nil ?_
    refine okX_next ?_
    refine okC_cond (b := ((a1.End == 2) || (a1.End == 3))) rfl (fun hb3 => ?_) (fun hb3 => ?_)
    · replace h := ct hb3 h
      refine okC_region ?_
      refine okL_step 12 (Ty.own v0) rfl rfl (does_move rfl) ?_
      refine okL_step 13 (pAt g1 2) rfl rfl (does_fieldAddrP 2 Tryd.underlying43 rfl Tryd.sizeOf3 rfl rfl) ?_
      refine okL_step 14 (tI a1.Reg) rfl rfl (does_loadB1 Tryd.isAgg3 rfl 0 rfl rfl) ?_
      obtain ⟨r4, hc5, h⟩ := bs h
      refine okL_stepO 15 rfl rfl (doesO_call0 (Item.blk g1 43 [(tL 6 VInstr.ty a1.Instrs), (tI a1.End), (tI a1.Reg), (tI a1.Target), (tI a1.Else)] :: L) (c_liveness_set_add a0 a1.Reg v0 r4 hc5) rfl Tryd.call72 rfl (pm 1 rfl (pr _)) (fun _ => ?_))
      refine okL_nil ?_
      obtain rfl := (smh h).symm
      refine okX_items [Item.blk g1 43 [(tL 6 VInstr.ty a1.Instrs), (tI a1.End), (tI a1.Reg), (tI a1.Target), (tI a1.Else)]] (rowL v0 137 1 lU r4 :: L) (pm 1 rfl (pm 0 rfl (pr _))) ?_
      exact okX_end0 () Tryd.results67 rfl rfl
    · replace h := cf hb3 h
      refine okC_skip ?_
      obtain rfl := (smh h).symm
      refine okX_items [Item.blk g1 43 [(tL 6 VInstr.ty a1.Instrs), (tI a1.End), (tI a1.Reg), (tI a1.Target), (tI a1.Else)]] (rowL v0 137 1 lU a0 :: L) (pm 0 rfl (pm 0 rfl (pr _))) ?_
      exact okX_end0 () Tryd.results67 rfl rfl

def vcode_Writes  (a0 : VInstr) : Option (List Int) :=
  (Option.bind (vcode_allowed a0.Instr.Op) (fun r2 => (cnd (!r2) (some ([] : List Int)) (Option.bind (machine_Info a0.Instr.Op) (fun r5 => (cnd ((r5.1.WritesA || (a0.Instr.Op == 6)) || (a0.Instr.Op == 38)) (some ([a0.Instr.A] : List Int)) (some ([] : List Int))))))))

theorem c_vcode_Writes  (a0 : VInstr) (r : (List Int)) (h : vcode_Writes  a0 = some r) : CallP Tryd.prog glob 96 [(Ty.agg [(tI a0.Instr.Op), (tI a0.Instr.A), (tI a0.Instr.B), (tI a0.Instr.C), (tI a0.Instr.N), (tL 1 lI a0.Args)])] (tL 1 lI r) := by
  refine call_of_code Tryd.func96 rfl Tryd.ntmps96 rfl (fun L w => ?_)
  change OkC _ _ _ [(0, (Ty.agg [(tI a0.Instr.Op), (tI a0.Instr.A), (tI a0.Instr.B), (tI a0.Instr.C), (tI a0.Instr.N), (tL 1 lI a0.Args)]))] (L)
  unfold vcode_Writes at h
  refine okC_seq ?_
  refine okC_region ?_
  refine okL_stepO 1 rfl rfl (doesO_box [(tI a0.Instr.Op), (tI a0.Instr.A), (tI a0.Instr.B), (tI a0.Instr.C), (tI a0.Instr.N), (tL 1 lI a0.Args)] rfl (part_agg _) (fun g1 => ?_))
  refine okL_step 2 (Ty.val (.slice none 0 0)) rfl rfl (does_assign rfl) ?_
  refine okL_nil ?_
  refine okX_next ?_
  refine okC_seq ?_
  refine okC_seq ?_
  refine okC_region ?_
  refine okL_step 5 (pAt g1 0) rfl rfl (does_fieldAddrP 0 Tryd.underlying48 rfl Tryd.sizeOf46 rfl rfl) ?_
  refine okL_step 6 (pAt g1 0) rfl rfl (does_fieldAddrP 0 Tryd.underlying46 rfl Tryd.sizeOf3 rfl rfl) ?_
  refine okL_step 7 (tI a0.Instr.Op) rfl rfl (does_loadB1 Tryd.isAgg3 rfl 0 rfl rfl) ?_
  obtain ⟨r2, hc3, h⟩ := bs h
  refine okL_step 8 (tB r2) rfl rfl (does_call0 (c_vcode_allowed a0.Instr.Op r2 hc3) rfl Tryd.call119 rfl) ?_
  refine okL_step 9 (tB (!r2)) rfl rfl (does_not rfl) ?_
  refine okL_nil ?_
  refine okX_next ?_
  refine okC_cond (b := (!r2)) rfl (fun hb4 => ?_) (fun hb4 => ?_)
  · replace h := ct hb4 h
    refine okC_seq ?_
    refine okC_region ?_
    refine okL_step 2 (Ty.val (.slice none 0 0)) rfl rfl (does_assign rfl) ?_
    refine okL_nil ?_
    refine okX_next ?_
    refine okC_ret ?_
    refine okX_then_ret ?_
    obtain rfl := (smh h).symm
    refine okX_sub 2 (tL 1 lI ([] : List Int)) rfl (sub_nil _) ?_
    refine okX_items [Item.blk g1 48 [(tI a0.Instr.Op), (tI a0.Instr.A), (tI a0.Instr.B), (tI a0.Instr.C), (tI a0.Instr.N), (tL 1 lI a0.Args)]] (L) (pm 0 rfl (pr _)) ?_
    exact okX_ret1 () Tryd.results96 rfl rfl
  · replace h := cf hb4 h
    refine okC_skip ?_
    refine okX_next ?_
    refine okC_seq ?_
    refine okC_region ?_
    refine okL_step 11 (pAt g1 0) rfl rfl (does_fieldAddrP 0 Tryd.underlying48 rfl Tryd.sizeOf46 rfl rfl) ?_
    refine okL_step 12 (pAt g1 0) rfl rfl (does_fieldAddrP 0 Tryd.underlying46 rfl Tryd.sizeOf3 rfl rfl) ?_
    refine okL_step 13 (tI a0.Instr.Op) rfl rfl (does_loadB1 Tryd.isAgg3 rfl 0 rfl rfl) ?_
    obtain ⟨r5, hc6, h⟩ := bs h
    refine okL_step 14 (Ty.tup [(Ty.agg [(tS r5.1.Name), (tI r5.1.Form), (tB r5.1.ReadsA), (tB r5.1.WritesA), (tB r5.1.ReadsB), (tB r5.1.MayTrap), (tI r5.1.Words)]), (tB r5.2)]) rfl rfl (does_call0 (c_machine_Info a0.Instr.Op r5 hc6) rfl Tryd.call120 rfl) ?_
    refine okL_step 10 (Ty.tup [(Ty.agg [(tS r5.1.Name), (tI r5.1.Form), (tB r5.1.ReadsA), (tB r5.1.WritesA), (tB r5.1.ReadsB), (tB r5.1.MayTrap), (tI r5.1.Words)]), (tB r5.2)]) rfl rfl (does_move rfl) ?_
    refine okL_step 15 (Ty.agg [(tS r5.1.Name), (tI r5.1.Form), (tB r5.1.ReadsA), (tB r5.1.WritesA), (tB r5.1.ReadsB), (tB r5.1.MayTrap), (tI r5.1.Words)]) rfl rfl (does_extract rfl rfl) ?_
    refine okL_step 16 (tB r5.2) rfl rfl (does_extract rfl rfl) ?_
    refine okL_stepO 3 rfl rfl (doesO_alloc [(tS ⟨#[]⟩), (tI 0), (tB false), (tB false), (tB false), (tB false), (tI 0)] Tryd.zeroValue113 (part_of (sub_agg [(.string ⟨#[]⟩), (.int .i64 0), (.bool false), (.bool false), (.bool false), (.bool false), (.int .i64 0)] rfl) (part_agg _)) (fun g7 => ?_))
    refine okL_stepU rfl (doesO_storeB (ps := [(tS r5.1.Name), (tI r5.1.Form), (tB r5.1.ReadsA), (tB r5.1.WritesA), (tB r5.1.ReadsB), (tB r5.1.MayTrap), (tI r5.1.Words)]) 0 [(tS r5.1.Name), (tI r5.1.Form), (tB r5.1.ReadsA), (tB r5.1.WritesA), (tB r5.1.ReadsB), (tB r5.1.MayTrap), (tI r5.1.Words)] (Item.blk g7 113 [(tS r5.1.Name), (tI r5.1.Form), (tB r5.1.ReadsA), (tB r5.1.WritesA), (tB r5.1.ReadsB), (tB r5.1.MayTrap), (tI r5.1.Words)] :: Item.blk g1 48 [(tI a0.Instr.Op), (tI a0.Instr.A), (tI a0.Instr.B), (tI a0.Instr.C), (tI a0.Instr.N), (tL 1 lI a0.Args)] :: L) rfl rfl (part_agg _) Tryd.sizeOf113 rfl rfl rfl rfl ?_)
    refine okL_step 4 (tB r5.2) rfl rfl (does_assign rfl) ?_
    refine okL_nil ?_
    refine okX_next ?_
    refine okC_seq ?_
    refine okC_seq ?_
    refine okC_region ?_
    refine okL_step 17 (pAt g7 3) rfl rfl (does_fieldAddrP 3 Tryd.underlying113 rfl Tryd.sizeOf4 rfl rfl) ?_
    refine okL_step 18 (tB r5.1.WritesA) rfl rfl (does_loadB1 Tryd.isAgg4 rfl 0 rfl rfl) ?_
    refine okL_step 19 (tB r5.1.WritesA) rfl rfl (does_move rfl) ?_
    refine okL_meet (X := Bool) 5 (fun x => x = (r5.1.WritesA || (a0.Instr.Op == 6))) (fun x : Bool => [(1, (pAt g1 0)), (24, (tB x))]) (fun x : Bool => Item.blk g7 113 [(tS r5.1.Name), (tI r5.1.Form), (tB r5.1.ReadsA), (tB r5.1.WritesA), (tB r5.1.ReadsB), (tB r5.1.MayTrap), (tI r5.1.Words)] :: Item.blk g1 48 [(tI a0.Instr.Op), (tI a0.Instr.A), (tI a0.Instr.B), (tI a0.Instr.C), (tI a0.Instr.N), (tL 1 lI a0.Args)] :: L) _ rfl ?_ ?_
    · refine okL_split r5.1.WritesA (fun hb8 => ?_) (fun hb8 => ?_)
      · refine okL_skip 20 19 r5.1.WritesA rfl rfl hb8 rfl rfl ?_
        refine okL_skip 21 19 r5.1.WritesA rfl rfl hb8 rfl rfl ?_
        refine okL_skip 22 19 r5.1.WritesA rfl rfl hb8 rfl rfl ?_
        refine okL_skip 23 19 r5.1.WritesA rfl rfl hb8 rfl rfl ?_
        refine okL_step 24 (tB true) rfl rfl (does_pick_t r5.1.WritesA rfl hb8 rfl) ?_
        refine okL_nil ?_
        exact okX_meet (I := _) true (or_t hb8) (cc rfl (cc rfl cn)) rfl
      · refine okL_guard 20 (pAt g1 0) 19 r5.1.WritesA rfl rfl hb8 rfl rfl (does_fieldAddrP 0 Tryd.underlying48 rfl Tryd.sizeOf46 rfl rfl) ?_
        refine okL_guard 21 (pAt g1 0) 19 r5.1.WritesA rfl rfl hb8 rfl rfl (does_fieldAddrP 0 Tryd.underlying46 rfl Tryd.sizeOf3 rfl rfl) ?_
        refine okL_guard 22 (tI a0.Instr.Op) 19 r5.1.WritesA rfl rfl hb8 rfl rfl (does_loadB1 Tryd.isAgg3 rfl 1 rfl rfl) ?_
        refine okL_guard 23 (tB (a0.Instr.Op == 6)) 19 r5.1.WritesA rfl rfl hb8 rfl rfl (does_eql rfl rfl) ?_
        refine okL_step 24 (tB (a0.Instr.Op == 6)) rfl rfl (does_pick_f r5.1.WritesA rfl hb8 rfl) ?_
        refine okL_nil ?_
        exact okX_meet (I := _) (a0.Instr.Op == 6) (or_f hb8) (cc rfl (cc rfl cn)) rfl
    · intro x12 hx
      subst hx
      change OkL _ _ _ _ [(1, (pAt g1 0)), (24, (tB (r5.1.WritesA || (a0.Instr.Op == 6))))] (Item.blk g7 113 [(tS r5.1.Name), (tI r5.1.Form), (tB r5.1.ReadsA), (tB r5.1.WritesA), (tB r5.1.ReadsB), (tB r5.1.MayTrap), (tI r5.1.Words)] :: Item.blk g1 48 [(tI a0.Instr.Op), (tI a0.Instr.A), (tI a0.Instr.B), (tI a0.Instr.C), (tI a0.Instr.N), (tL 1 lI a0.Args)] :: L)
      refine okL_step 25 (tB (r5.1.WritesA || (a0.Instr.Op == 6))) rfl rfl (does_move rfl) ?_
      refine okL_meet (X := Bool) 5 (fun x => x = ((r5.1.WritesA || (a0.Instr.Op == 6)) || (a0.Instr.Op == 38))) (fun x : Bool => [(1, (pAt g1 0)), (30, (tB x))]) (fun x : Bool => Item.blk g7 113 [(tS r5.1.Name), (tI r5.1.Form), (tB r5.1.ReadsA), (tB r5.1.WritesA), (tB r5.1.ReadsB), (tB r5.1.MayTrap), (tI r5.1.Words)] :: Item.blk g1 48 [(tI a0.Instr.Op), (tI a0.Instr.A), (tI a0.Instr.B), (tI a0.Instr.C), (tI a0.Instr.N), (tL 1 lI a0.Args)] :: L) _ rfl ?_ ?_
      · refine okL_split (r5.1.WritesA || (a0.Instr.Op == 6)) (fun hb9 => ?_) (fun hb9 => ?_)
        · refine okL_skip 26 25 (r5.1.WritesA || (a0.Instr.Op == 6)) rfl rfl hb9 rfl rfl ?_
          refine okL_skip 27 25 (r5.1.WritesA || (a0.Instr.Op == 6)) rfl rfl hb9 rfl rfl ?_
          refine okL_skip 28 25 (r5.1.WritesA || (a0.Instr.Op == 6)) rfl rfl hb9 rfl rfl ?_
          refine okL_skip 29 25 (r5.1.WritesA || (a0.Instr.Op == 6)) rfl rfl hb9 rfl rfl ?_
          refine okL_step 30 (tB true) rfl rfl (does_pick_t (r5.1.WritesA || (a0.Instr.Op == 6)) rfl hb9 rfl) ?_
          refine okL_nil ?_
          exact okX_meet (I := _) true (or_t hb9) (cc rfl (cc rfl cn)) rfl
        · refine okL_guard 26 (pAt g1 0) 25 (r5.1.WritesA || (a0.Instr.Op == 6)) rfl rfl hb9 rfl rfl (does_fieldAddrP 0 Tryd.underlying48 rfl Tryd.sizeOf46 rfl rfl) ?_
          refine okL_guard 27 (pAt g1 0) 25 (r5.1.WritesA || (a0.Instr.Op == 6)) rfl rfl hb9 rfl rfl (does_fieldAddrP 0 Tryd.underlying46 rfl Tryd.sizeOf3 rfl rfl) ?_
          refine okL_guard 28 (tI a0.Instr.Op) 25 (r5.1.WritesA || (a0.Instr.Op == 6)) rfl rfl hb9 rfl rfl (does_loadB1 Tryd.isAgg3 rfl 1 rfl rfl) ?_
          refine okL_guard 29 (tB (a0.Instr.Op == 38)) 25 (r5.1.WritesA || (a0.Instr.Op == 6)) rfl rfl hb9 rfl rfl (does_eql rfl rfl) ?_
          refine okL_step 30 (tB (a0.Instr.Op == 38)) rfl rfl (does_pick_f (r5.1.WritesA || (a0.Instr.Op == 6)) rfl hb9 rfl) ?_
          refine okL_nil ?_
          exact okX_meet (I := _) (a0.Instr.Op == 38) (or_f hb9) (cc rfl (cc rfl cn)) rfl
      · intro x11 hx
        subst hx
        change OkL _ _ _ _ [(1, (pAt g1 0)), (30, (tB ((r5.1.WritesA || (a0.Instr.Op == 6)) || (a0.Instr.Op == 38))))] (Item.blk g7 113 [(tS r5.1.Name), (tI r5.1.Form), (tB r5.1.ReadsA), (tB r5.1.WritesA), (tB r5.1.ReadsB), (tB r5.1.MayTrap), (tI r5.1.Words)] :: Item.blk g1 48 [(tI a0.Instr.Op), (tI a0.Instr.A), (tI a0.Instr.B), (tI a0.Instr.C), (tI a0.Instr.N), (tL 1 lI a0.Args)] :: L)
        refine okL_nil ?_
        refine okX_next ?_
        refine okC_cond (b := ((r5.1.WritesA || (a0.Instr.Op == 6)) || (a0.Instr.Op == 38))) rfl (fun hb10 => ?_) (fun hb10 => ?_)
        · replace h := ct hb10 h
          refine okC_seq ?_
          refine okC_region ?_
          refine okL_step 31 (pAt g1 0) rfl rfl (does_fieldAddrP 0 Tryd.underlying48 rfl Tryd.sizeOf46 rfl rfl) ?_
          refine okL_step 32 (pAt g1 1) rfl rfl (does_fieldAddrP 1 Tryd.underlying46 rfl Tryd.sizeOf3 rfl rfl) ?_
          refine okL_step 33 (tI a0.Instr.A) rfl rfl (does_loadB1 Tryd.isAgg3 rfl 1 rfl rfl) ?_
          refine okL_step 34 (tL 1 lI ([a0.Instr.A] : List Int)) rfl rfl (does_buildSlice (f := lI) ([a0.Instr.A] : List Int) [(tI a0.Instr.A)] el31 rfl rfl rfl (fc [(tI a0.Instr.A)] 0 rfl (part_one (one_i _)) rfl rfl (fn_ rfl)) rfl (fun _ => rfl)) ?_
          refine okL_step 2 (tL 1 lI ([a0.Instr.A] : List Int)) rfl rfl (does_assign rfl) ?_
          refine okL_nil ?_
          refine okX_next ?_
          refine okC_ret ?_
          refine okX_then_ret ?_
          obtain rfl := (smh h).symm
          refine okX_items [Item.blk g7 113 [(tS r5.1.Name), (tI r5.1.Form), (tB r5.1.ReadsA), (tB r5.1.WritesA), (tB r5.1.ReadsB), (tB r5.1.MayTrap), (tI r5.1.Words)], Item.blk g1 48 [(tI a0.Instr.Op), (tI a0.Instr.A), (tI a0.Instr.B), (tI a0.Instr.C), (tI a0.Instr.N), (tL 1 lI a0.Args)]] (L) (pm 0 rfl (pm 0 rfl (pr _))) ?_
          exact okX_ret1 () Tryd.results96 rfl rfl
        · replace h := cf hb10 h
          refine okC_skip ?_
          refine okX_next ?_
          refine okC_seq ?_
          refine okC_region ?_
          refine okL_step 2 (Ty.val (.slice none 0 0)) rfl rfl (does_assign rfl) ?_
          refine okL_nil ?_
          refine okX_next ?_
          refine okC_ret ?_
          obtain rfl := (smh h).symm
          refine okX_sub 2 (tL 1 lI ([] : List Int)) rfl (sub_nil _) ?_
          refine okX_items [Item.blk g7 113 [(tS r5.1.Name), (tI r5.1.Form), (tB r5.1.ReadsA), (tB r5.1.WritesA), (tB r5.1.ReadsB), (tB r5.1.MayTrap), (tI r5.1.Words)], Item.blk g1 48 [(tI a0.Instr.Op), (tI a0.Instr.A), (tI a0.Instr.B), (tI a0.Instr.C), (tI a0.Instr.N), (tL 1 lI a0.Args)]] (L) (pm 0 rfl (pm 0 rfl (pr _))) ?_
          exact okX_ret1 () Tryd.results96 rfl rfl

def vcode_validInstr_l1 (K : Nat) (a0 : VFunc) (a1 : VInstr) : Nat → Int → Option (Unit ⊕ Bool)
  | 0, _ => none
  | k + 1, s16 => (cnd (decide (s16 < ((a1.Args).length : Int))) (Option.bind (idx a1.Args s16) (fun y19 => (Option.bind (vcode_validInstr_1 y19 a0) (fun r21 => (cnd (!r21) (out (some false)) (vcode_validInstr_l1 K a0 a1 k (w64 (s16 + 1)))))))) (inn ()))

def vcode_validInstr (K : Nat) (a0 : VFunc) (a1 : VInstr) : Option Bool :=
  (Option.bind (vcode_allowed a1.Instr.Op) (fun r4 => (cnd (((!r4) || (decide (((a1.Args).length : Int) > 6))) || ((a1.Instr.Op != 6) && (decide (((a1.Args).length : Int) > 0)))) (some false) (sq (vcode_validInstr_l1 K a0 a1 K 0) (fun s11 => (Option.bind (Option.bind (vcode_form a1.Instr.Op) (fun r29 => (cnd (r29 == 2) (some (true, false, false, false)) (cnd (r29 == 3) (some (true, true, false, false)) (cnd (r29 == 4) (some (true, true, true, false)) (cnd (r29 == 5) (some (true, false, false, true)) (cnd (r29 == 7) (some (true, true, false, true)) (some (false, false, false, false))))))))) (fun s24 => (Option.bind (cnd s24.1 (Option.bind (vcode_validInstr_1 a1.Instr.A a0) (fun r41 => (some (!r41)))) (some false)) (fun x40 => (Option.bind (cnd x40 (some true) (Option.bind (cnd s24.2.1 (Option.bind (vcode_validInstr_1 a1.Instr.B a0) (fun r53 => (some (!r53)))) (some false)) (fun x52 => (some x52)))) (fun x47 => (Option.bind (cnd x47 (some true) (Option.bind (cnd s24.2.2.1 (Option.bind (vcode_validInstr_1 a1.Instr.C a0) (fun r65 => (some (!r65)))) (some false)) (fun x64 => (some x64)))) (fun x59 => (cnd ((((x59 || ((!s24.1) && (a1.Instr.A != 0))) || ((!s24.2.1) && (a1.Instr.B != 0))) || ((!s24.2.2.1) && (a1.Instr.C != 0))) || ((!s24.2.2.2) && (a1.Instr.N != 0))) (some false) (cnd (a1.Instr.Op == 33) (some ((decide (a1.Instr.N ≥ (-4194304))) && (decide (a1.Instr.N < 4194304)))) (cnd (a1.Instr.Op == 6) (some ((decide (a1.Instr.N ≥ 0)) && (decide (a1.Instr.N < 8)))) (Option.bind (cnd (a1.Instr.Op == 34) (some (a1.Instr.Op == 34)) (some (a1.Instr.Op == 35))) (fun s86 => (cnd s86 (some ((decide (a1.Instr.N ≥ 0)) && (decide (a1.Instr.N < 4)))) (cnd (a1.Instr.Op == 38) (some ((decide (a1.Instr.N ≥ 0)) && (decide (a1.Instr.N < a0.Params)))) (some true)))))))))))))))))))))

theorem c_vcode_validInstr (K : Nat) (a0 : VFunc) (a1 : VInstr) (r : Bool) (h : vcode_validInstr K a0 a1 = some r) : CallP Tryd.prog glob 103 [(Ty.agg [(tI a0.Params), (tI a0.Regs), (tL 5 Block.ty a0.Blocks)]), (Ty.agg [(tI a1.Instr.Op), (tI a1.Instr.A), (tI a1.Instr.B), (tI a1.Instr.C), (tI a1.Instr.N), (tL 1 lI a1.Args)])] (tB r) := by
  refine call_of_code Tryd.func103 rfl Tryd.ntmps103 rfl (fun L w => ?_)
  change OkC _ _ _ [(0, (Ty.agg [(tI a0.Params), (tI a0.Regs), (tL 5 Block.ty a0.Blocks)])), (1, (Ty.agg [(tI a1.Instr.Op), (tI a1.Instr.A), (tI a1.Instr.B), (tI a1.Instr.C), (tI a1.Instr.N), (tL 1 lI a1.Args)]))] (L)
  unfold vcode_validInstr at h
  refine okC_seq ?_
  refine okC_region ?_
  refine okL_stepO 2 rfl rfl (doesO_box [(tI a0.Params), (tI a0.Regs), (tL 5 Block.ty a0.Blocks)] rfl (part_agg _) (fun g1 => ?_))
  refine okL_stepO 3 rfl rfl (doesO_box [(tI a1.Instr.Op), (tI a1.Instr.A), (tI a1.Instr.B), (tI a1.Instr.C), (tI a1.Instr.N), (tL 1 lI a1.Args)] rfl (part_agg _) (fun g2 => ?_))
  refine okL_step 4 (tB false) rfl rfl (does_assign rfl) ?_
  refine okL_nil ?_
  refine okX_next ?_
  refine okC_seq ?_
  refine okC_region ?_
  refine okL_step 13 (pAt g2 0) rfl rfl (does_fieldAddrP 0 Tryd.underlying48 rfl Tryd.sizeOf46 rfl rfl) ?_
  refine okL_step 14 (Ty.agg [(tI a1.Instr.Op), (tI a1.Instr.A), (tI a1.Instr.B), (tI a1.Instr.C), (tI a1.Instr.N)]) rfl rfl (does_loadBA [(tI a1.Instr.Op), (tI a1.Instr.A), (tI a1.Instr.B), (tI a1.Instr.C), (tI a1.Instr.N)] Tryd.isAgg46 Tryd.sizeOf46 rfl 0 rfl rfl rfl) ?_
  refine okL_stepO 5 rfl rfl (doesO_alloc [(tI 0), (tI 0), (tI 0), (tI 0), (tI 0)] Tryd.zeroValue46 (part_of (sub_agg [(.int .i64 0), (.int .i64 0), (.int .i64 0), (.int .i64 0), (.int .i64 0)] rfl) (part_agg _)) (fun g3 => ?_))
  refine okL_stepU rfl (doesO_storeB (ps := [(tI a1.Instr.Op), (tI a1.Instr.A), (tI a1.Instr.B), (tI a1.Instr.C), (tI a1.Instr.N)]) 0 [(tI a1.Instr.Op), (tI a1.Instr.A), (tI a1.Instr.B), (tI a1.Instr.C), (tI a1.Instr.N)] (Item.blk g3 46 [(tI a1.Instr.Op), (tI a1.Instr.A), (tI a1.Instr.B), (tI a1.Instr.C), (tI a1.Instr.N)] :: Item.blk g2 48 [(tI a1.Instr.Op), (tI a1.Instr.A), (tI a1.Instr.B), (tI a1.Instr.C), (tI a1.Instr.N), (tL 1 lI a1.Args)] :: Item.blk g1 27 [(tI a0.Params), (tI a0.Regs), (tL 5 Block.ty a0.Blocks)] :: L) rfl rfl (part_agg _) Tryd.sizeOf46 rfl rfl rfl rfl ?_)
  refine okL_nil ?_
  refine okX_next ?_
  refine okC_seq ?_
  refine okC_seq ?_
  refine okC_region ?_
  refine okL_step 15 (pAt g3 0) rfl rfl (does_fieldAddrP 0 Tryd.underlying46 rfl Tryd.sizeOf3 rfl rfl) ?_
  refine okL_step 16 (tI a1.Instr.Op) rfl rfl (does_loadB1 Tryd.isAgg3 rfl 0 rfl rfl) ?_
  obtain ⟨r4, hc5, h⟩ := bs h
  refine okL_step 17 (tB r4) rfl rfl (does_call0 (c_vcode_allowed a1.Instr.Op r4 hc5) rfl Tryd.call119 rfl) ?_
  refine okL_step 18 (tB (!r4)) rfl rfl (does_not rfl) ?_
  refine okL_step 19 (tB (!r4)) rfl rfl (does_move rfl) ?_
  refine okL_meet (X := Bool) 5 (fun x => x = ((!r4) || (decide (((a1.Args).length : Int) > 6)))) (fun x : Bool => [(2, (pAt g1 0)), (3, (pAt g2 0)), (5, (pAt g3 0)), (24, (tB x))]) (fun x : Bool => Item.blk g3 46 [(tI a1.Instr.Op), (tI a1.Instr.A), (tI a1.Instr.B), (tI a1.Instr.C), (tI a1.Instr.N)] :: Item.blk g2 48 [(tI a1.Instr.Op), (tI a1.Instr.A), (tI a1.Instr.B), (tI a1.Instr.C), (tI a1.Instr.N), (tL 1 lI a1.Args)] :: Item.blk g1 27 [(tI a0.Params), (tI a0.Regs), (tL 5 Block.ty a0.Blocks)] :: L) _ rfl ?_ ?_
  · refine okL_split (!r4) (fun hb6 => ?_) (fun hb6 => ?_)
    · refine okL_skip 20 19 (!r4) rfl rfl hb6 rfl rfl ?_
      refine okL_skip 21 19 (!r4) rfl rfl hb6 rfl rfl ?_
      refine okL_skip 22 19 (!r4) rfl rfl hb6 rfl rfl ?_
      refine okL_skip 23 19 (!r4) rfl rfl hb6 rfl rfl ?_
      refine okL_step 24 (tB true) rfl rfl (does_pick_t (!r4) rfl hb6 rfl) ?_
      refine okL_nil ?_
      exact okX_meet (I := _) true (or_t hb6) (cc rfl (cc rfl (cc rfl (cc rfl cn)))) rfl
    · refine okL_guard 20 (pAt g2 5) 19 (!r4) rfl rfl hb6 rfl rfl (does_fieldAddrP 5 Tryd.underlying48 rfl Tryd.sizeOf31 rfl rfl) ?_
      refine okL_guard 21 (tL 1 lI a1.Args) 19 (!r4) rfl rfl hb6 rfl rfl (does_loadB1 Tryd.isAgg31 rfl 1 rfl rfl) ?_
      refine okL_guard 22 (tI ((a1.Args).length : Int)) 19 (!r4) rfl rfl hb6 rfl rfl (does_len (sz := 1) (f := lI) (l := a1.Args) rfl Tryd.underlying31 rfl) ?_
      refine okL_guard 23 (tB (decide (((a1.Args).length : Int) > 6))) 19 (!r4) rfl rfl hb6 rfl rfl (does_gtr rfl rfl) ?_
      refine okL_step 24 (tB (decide (((a1.Args).length : Int) > 6))) rfl rfl (does_pick_f (!r4) rfl hb6 rfl) ?_
      refine okL_nil ?_
      exact okX_meet (I := _) (decide (((a1.Args).length : Int) > 6)) (or_f hb6) (cc rfl (cc rfl (cc rfl (cc rfl cn)))) rfl
  · intro x103 hx
    subst hx
    change OkL _ _ _ _ [(2, (pAt g1 0)), (3, (pAt g2 0)), (5, (pAt g3 0)), (24, (tB ((!r4) || (decide (((a1.Args).length : Int) > 6)))))] (Item.blk g3 46 [(tI a1.Instr.Op), (tI a1.Instr.A), (tI a1.Instr.B), (tI a1.Instr.C), (tI a1.Instr.N)] :: Item.blk g2 48 [(tI a1.Instr.Op), (tI a1.Instr.A), (tI a1.Instr.B), (tI a1.Instr.C), (tI a1.Instr.N), (tL 1 lI a1.Args)] :: Item.blk g1 27 [(tI a0.Params), (tI a0.Regs), (tL 5 Block.ty a0.Blocks)] :: L)
    refine okL_step 25 (tB ((!r4) || (decide (((a1.Args).length : Int) > 6)))) rfl rfl (does_move rfl) ?_
    refine okL_meet (X := Bool) 10 (fun x => x = (((!r4) || (decide (((a1.Args).length : Int) > 6))) || ((a1.Instr.Op != 6) && (decide (((a1.Args).length : Int) > 0))))) (fun x : Bool => [(2, (pAt g1 0)), (3, (pAt g2 0)), (5, (pAt g3 0)), (35, (tB x))]) (fun x : Bool => Item.blk g3 46 [(tI a1.Instr.Op), (tI a1.Instr.A), (tI a1.Instr.B), (tI a1.Instr.C), (tI a1.Instr.N)] :: Item.blk g2 48 [(tI a1.Instr.Op), (tI a1.Instr.A), (tI a1.Instr.B), (tI a1.Instr.C), (tI a1.Instr.N), (tL 1 lI a1.Args)] :: Item.blk g1 27 [(tI a0.Params), (tI a0.Regs), (tL 5 Block.ty a0.Blocks)] :: L) _ rfl ?_ ?_
    · refine okL_split ((!r4) || (decide (((a1.Args).length : Int) > 6))) (fun hb7 => ?_) (fun hb7 => ?_)
      · refine okL_skip 26 25 ((!r4) || (decide (((a1.Args).length : Int) > 6))) rfl rfl hb7 rfl rfl ?_
        refine okL_skip 27 25 ((!r4) || (decide (((a1.Args).length : Int) > 6))) rfl rfl hb7 rfl rfl ?_
        refine okL_skip 28 25 ((!r4) || (decide (((a1.Args).length : Int) > 6))) rfl rfl hb7 rfl rfl ?_
        refine okL_skip 29 25 ((!r4) || (decide (((a1.Args).length : Int) > 6))) rfl rfl hb7 rfl rfl ?_
        refine okL_skipU 30 29 rfl rfl rfl rfl ?_
        refine okL_skipU 31 29 rfl rfl rfl rfl ?_
        refine okL_skipU 32 29 rfl rfl rfl rfl ?_
        refine okL_skipU 33 29 rfl rfl rfl rfl ?_
        refine okL_skip 34 25 ((!r4) || (decide (((a1.Args).length : Int) > 6))) rfl rfl hb7 rfl rfl ?_
        refine okL_step 35 (tB true) rfl rfl (does_pick_t ((!r4) || (decide (((a1.Args).length : Int) > 6))) rfl hb7 rfl) ?_
        refine okL_nil ?_
        exact okX_meet (I := _) true (or_t hb7) (cc rfl (cc rfl (cc rfl (cc rfl cn)))) rfl
      · refine okL_guard 26 (pAt g3 0) 25 ((!r4) || (decide (((a1.Args).length : Int) > 6))) rfl rfl hb7 rfl rfl (does_fieldAddrP 0 Tryd.underlying46 rfl Tryd.sizeOf3 rfl rfl) ?_
        refine okL_guard 27 (tI a1.Instr.Op) 25 ((!r4) || (decide (((a1.Args).length : Int) > 6))) rfl rfl hb7 rfl rfl (does_loadB1 Tryd.isAgg3 rfl 0 rfl rfl) ?_
        refine okL_guard 28 (tB (a1.Instr.Op != 6)) 25 ((!r4) || (decide (((a1.Args).length : Int) > 6))) rfl rfl hb7 rfl rfl (does_neq rfl rfl) ?_
        refine okL_guard 29 (tB (a1.Instr.Op != 6)) 25 ((!r4) || (decide (((a1.Args).length : Int) > 6))) rfl rfl hb7 rfl rfl (does_move rfl) ?_
        refine okL_meet (X := Bool) 5 (fun x => x = ((a1.Instr.Op != 6) && (decide (((a1.Args).length : Int) > 0)))) (fun x : Bool => [(2, (pAt g1 0)), (3, (pAt g2 0)), (5, (pAt g3 0)), (25, (tB ((!r4) || (decide (((a1.Args).length : Int) > 6))))), (34, (tB x))]) (fun x : Bool => Item.blk g3 46 [(tI a1.Instr.Op), (tI a1.Instr.A), (tI a1.Instr.B), (tI a1.Instr.C), (tI a1.Instr.N)] :: Item.blk g2 48 [(tI a1.Instr.Op), (tI a1.Instr.A), (tI a1.Instr.B), (tI a1.Instr.C), (tI a1.Instr.N), (tL 1 lI a1.Args)] :: Item.blk g1 27 [(tI a0.Params), (tI a0.Regs), (tL 5 Block.ty a0.Blocks)] :: L) _ rfl ?_ ?_
        · refine okL_split (a1.Instr.Op != 6) (fun hb8 => ?_) (fun hb8 => ?_)
          · refine okL_guard 30 (pAt g2 5) 29 (a1.Instr.Op != 6) rfl rfl hb8 rfl rfl (does_fieldAddrP 5 Tryd.underlying48 rfl Tryd.sizeOf31 rfl rfl) ?_
            refine okL_guard 31 (tL 1 lI a1.Args) 29 (a1.Instr.Op != 6) rfl rfl hb8 rfl rfl (does_loadB1 Tryd.isAgg31 rfl 1 rfl rfl) ?_
            refine okL_guard 32 (tI ((a1.Args).length : Int)) 29 (a1.Instr.Op != 6) rfl rfl hb8 rfl rfl (does_len (sz := 1) (f := lI) (l := a1.Args) rfl Tryd.underlying31 rfl) ?_
            refine okL_guard 33 (tB (decide (((a1.Args).length : Int) > 0))) 29 (a1.Instr.Op != 6) rfl rfl hb8 rfl rfl (does_gtr rfl rfl) ?_
            refine okL_guard 34 (tB (decide (((a1.Args).length : Int) > 0))) 25 ((!r4) || (decide (((a1.Args).length : Int) > 6))) rfl rfl hb7 rfl rfl (does_pick_t (a1.Instr.Op != 6) rfl hb8 rfl) ?_
            refine okL_nil ?_
            exact okX_meet (I := _) (decide (((a1.Args).length : Int) > 0)) (and_t hb8) (cc rfl (cc rfl (cc rfl (cc rfl (cc rfl cn))))) rfl
          · refine okL_skip 30 29 (a1.Instr.Op != 6) rfl rfl hb8 rfl rfl ?_
            refine okL_skip 31 29 (a1.Instr.Op != 6) rfl rfl hb8 rfl rfl ?_
            refine okL_skip 32 29 (a1.Instr.Op != 6) rfl rfl hb8 rfl rfl ?_
            refine okL_skip 33 29 (a1.Instr.Op != 6) rfl rfl hb8 rfl rfl ?_
            refine okL_guard 34 (tB false) 25 ((!r4) || (decide (((a1.Args).length : Int) > 6))) rfl rfl hb7 rfl rfl (does_pick_f (a1.Instr.Op != 6) rfl hb8 rfl) ?_
            refine okL_nil ?_
            exact okX_meet (I := _) false (and_f hb8) (cc rfl (cc rfl (cc rfl (cc rfl (cc rfl cn))))) rfl
        · intro x9 hx
          subst hx
          change OkL _ _ _ _ [(2, (pAt g1 0)), (3, (pAt g2 0)), (5, (pAt g3 0)), (25, (tB ((!r4) || (decide (((a1.Args).length : Int) > 6))))), (34, (tB ((a1.Instr.Op != 6) && (decide (((a1.Args).length : Int) > 0)))))] (Item.blk g3 46 [(tI a1.Instr.Op), (tI a1.Instr.A), (tI a1.Instr.B), (tI a1.Instr.C), (tI a1.Instr.N)] :: Item.blk g2 48 [(tI a1.Instr.Op), (tI a1.Instr.A), (tI a1.Instr.B), (tI a1.Instr.C), (tI a1.Instr.N), (tL 1 lI a1.Args)] :: Item.blk g1 27 [(tI a0.Params), (tI a0.Regs), (tL 5 Block.ty a0.Blocks)] :: L)
          refine okL_step 35 (tB ((a1.Instr.Op != 6) && (decide (((a1.Args).length : Int) > 0)))) rfl rfl (does_pick_f ((!r4) || (decide (((a1.Args).length : Int) > 6))) rfl hb7 rfl) ?_
          refine okL_nil ?_
          exact okX_meet (I := _) ((a1.Instr.Op != 6) && (decide (((a1.Args).length : Int) > 0))) (or_f hb7) (cc rfl (cc rfl (cc rfl (cc rfl cn)))) rfl
    · intro x102 hx
      subst hx
      change OkL _ _ _ _ [(2, (pAt g1 0)), (3, (pAt g2 0)), (5, (pAt g3 0)), (35, (tB (((!r4) || (decide (((a1.Args).length : Int) > 6))) || ((a1.Instr.Op != 6) && (decide (((a1.Args).length : Int) > 0))))))] (Item.blk g3 46 [(tI a1.Instr.Op), (tI a1.Instr.A), (tI a1.Instr.B), (tI a1.Instr.C), (tI a1.Instr.N)] :: Item.blk g2 48 [(tI a1.Instr.Op), (tI a1.Instr.A), (tI a1.Instr.B), (tI a1.Instr.C), (tI a1.Instr.N), (tL 1 lI a1.Args)] :: Item.blk g1 27 [(tI a0.Params), (tI a0.Regs), (tL 5 Block.ty a0.Blocks)] :: L)
      refine okL_nil ?_
      refine okX_next ?_
      refine okC_cond (b := (((!r4) || (decide (((a1.Args).length : Int) > 6))) || ((a1.Instr.Op != 6) && (decide (((a1.Args).length : Int) > 0))))) rfl (fun hb10 => ?_) (fun hb10 => ?_)
      · replace h := ct hb10 h
        refine okC_seq ?_
        refine okC_region ?_
        refine okL_step 4 (tB false) rfl rfl (does_assign rfl) ?_
        refine okL_nil ?_
        refine okX_next ?_
        refine okC_ret ?_
        refine okX_then_ret ?_
        obtain rfl := (smh h).symm
        refine okX_items [Item.blk g3 46 [(tI a1.Instr.Op), (tI a1.Instr.A), (tI a1.Instr.B), (tI a1.Instr.C), (tI a1.Instr.N)], Item.blk g2 48 [(tI a1.Instr.Op), (tI a1.Instr.A), (tI a1.Instr.B), (tI a1.Instr.C), (tI a1.Instr.N), (tL 1 lI a1.Args)], Item.blk g1 27 [(tI a0.Params), (tI a0.Regs), (tL 5 Block.ty a0.Blocks)]] (L) (pm 0 rfl (pm 0 rfl (pm 0 rfl (pr _)))) ?_
        exact okX_ret1 () Tryd.results103 rfl rfl
      · replace h := cf hb10 h
        refine okC_skip ?_
        refine okX_next ?_
        refine okC_seq ?_
        refine okC_region ?_
        refine okL_step 36 (Ty.val (.func (.func 126) #[] #[(.pointer (some ⟨g1, 0, none⟩))])) rfl rfl (does_makeFunc (vs := [(.pointer (some ⟨g1, 0, none⟩))]) rfl) ?_
        refine okL_step 6 (Ty.val (.func (.func 126) #[] #[(.pointer (some ⟨g1, 0, none⟩))])) rfl rfl (does_assign rfl) ?_
        refine okL_nil ?_
        refine okX_next ?_
        refine okC_seq ?_
        refine okC_seq ?_
        refine okC_region ?_
        refine okL_step 37 (pAt g2 5) rfl rfl (does_fieldAddrP 5 Tryd.underlying48 rfl Tryd.sizeOf31 rfl rfl) ?_
        refine okL_step 38 (tL 1 lI a1.Args) rfl rfl (does_loadB1 Tryd.isAgg31 rfl 1 rfl rfl) ?_
        refine okL_step 39 (tI ((a1.Args).length : Int)) rfl rfl (does_len (sz := 1) (f := lI) (l := a1.Args) rfl Tryd.underlying31 rfl) ?_
        refine okL_step 40 (tI 0) rfl rfl (does_move rfl) ?_
        refine okL_nil ?_
        refine okX_next ?_
        obtain ⟨z13, h15, hz14⟩ := sqs h
        refine okC_meetE (X := Unit) (fun x => z13 = .inl x) (fun x : Unit => [(2, (pAt g1 0)), (5, (pAt g3 0)), (6, (Ty.val (.func (.func 126) #[] #[(.pointer (some ⟨g1, 0, none⟩))])))]) (fun x : Unit => Item.blk g3 46 [(tI a1.Instr.Op), (tI a1.Instr.A), (tI a1.Instr.B), (tI a1.Instr.C), (tI a1.Instr.N)] :: Item.blk g2 48 [(tI a1.Instr.Op), (tI a1.Instr.A), (tI a1.Instr.B), (tI a1.Instr.C), (tI a1.Instr.N), (tL 1 lI a1.Args)] :: Item.blk g1 27 [(tI a0.Params), (tI a0.Regs), (tL 5 Block.ty a0.Blocks)] :: L) ?_ ?_
        · refine okC_block ?_
          refine okC_loop (X := Int) (fun k x => vcode_validInstr_l1 K a0 a1 k x = some z13) (fun x : Int => [(2, (pAt g1 0)), (5, (pAt g3 0)), (6, (Ty.val (.func (.func 126) #[] #[(.pointer (some ⟨g1, 0, none⟩))]))), (38, (tL 1 lI a1.Args)), (39, (tI ((a1.Args).length : Int))), (40, (tI x))]) (fun x : Int => Item.blk g3 46 [(tI a1.Instr.Op), (tI a1.Instr.A), (tI a1.Instr.B), (tI a1.Instr.C), (tI a1.Instr.N)] :: Item.blk g2 48 [(tI a1.Instr.Op), (tI a1.Instr.A), (tI a1.Instr.B), (tI a1.Instr.C), (tI a1.Instr.N), (tL 1 lI a1.Args)] :: Item.blk g1 27 [(tI a0.Params), (tI a0.Regs), (tL 5 Block.ty a0.Blocks)] :: L) K 0 h15 (cc rfl (cc rfl (cc rfl (cc rfl (cc rfl (cc rfl cn)))))) rfl (fun k s16 hI => ?_)
          change OkC _ _ _ [(2, (pAt g1 0)), (5, (pAt g3 0)), (6, (Ty.val (.func (.func 126) #[] #[(.pointer (some ⟨g1, 0, none⟩))]))), (38, (tL 1 lI a1.Args)), (39, (tI ((a1.Args).length : Int))), (40, (tI s16))] (Item.blk g3 46 [(tI a1.Instr.Op), (tI a1.Instr.A), (tI a1.Instr.B), (tI a1.Instr.C), (tI a1.Instr.N)] :: Item.blk g2 48 [(tI a1.Instr.Op), (tI a1.Instr.A), (tI a1.Instr.B), (tI a1.Instr.C), (tI a1.Instr.N), (tL 1 lI a1.Args)] :: Item.blk g1 27 [(tI a0.Params), (tI a0.Regs), (tL 5 Block.ty a0.Blocks)] :: L)
          cases k with
          | zero => exact (nz hI).elim
          | succ k =>
            have h : vcode_validInstr_l1 K a0 a1 (k + 1) s16 = some z13 := hI
            rw [vcode_validInstr_l1.eq_2] at h
            refine okC_seq ?_
            refine okC_region ?_
            refine okL_step 41 (tB (decide (s16 < ((a1.Args).length : Int)))) rfl rfl (does_lss rfl rfl) ?_
            refine okL_nil ?_
            refine okX_next ?_
            refine okC_seq ?_
            refine okC_cond (b := (decide (s16 < ((a1.Args).length : Int)))) rfl (fun hb18 => ?_) (fun hb18 => ?_)
            · replace h := ct hb18 h
              refine okC_skip ?_
              refine okX_next ?_
              refine okC_seq ?_
              refine okC_block ?_
              refine okC_seq ?_
              refine okC_region ?_
              obtain ⟨y19, hi20, h⟩ := bs h
              refine okL_step 42 (Ty.ptr [(tI y19)]) rfl rfl (does_index (sz := 1) (f := lI) (l := a1.Args) (n := s16) y19 Tryd.underlying31 Tryd.sizeOf3 hi20 rfl rfl) ?_
              refine okL_step 43 (tI y19) rfl rfl (does_load1 Tryd.isAgg3 rfl) ?_
              refine okL_step 8 (tI y19) rfl rfl (does_assign rfl) ?_
              refine okL_nil ?_
              refine okX_next ?_
              refine okC_seq ?_
              refine okC_region ?_
              refine okL_step 44 (Ty.val (.func (.func 126) #[] #[(.pointer (some ⟨g1, 0, none⟩))])) rfl rfl (does_move rfl) ?_
              refine okL_step 45 (tI y19) rfl rfl (does_move rfl) ?_
              obtain ⟨r21, hc22, h⟩ := bs h
              refine okL_step 46 (tB r21) rfl rfl (does_callC (As := [(tI y19)]) (Cs := [(pAt g1 0)]) 2 rfl (c_vcode_validInstr_1 y19 a0 g1 r21 hc22) rfl Tryd.call126 rfl rfl rfl) ?_
              refine okL_step 47 (tB (!r21)) rfl rfl (does_not rfl) ?_
              refine okL_nil ?_
              refine okX_next ?_
              refine okC_cond (b := (!r21)) rfl (fun hb23 => ?_) (fun hb23 => ?_)
              · replace h := ct hb23 h
                refine okC_seq ?_
                refine okC_region ?_
                refine okL_step 4 (tB false) rfl rfl (does_assign rfl) ?_
                refine okL_nil ?_
                refine okX_next ?_
                refine okC_ret ?_
                refine okX_block_ret ?_
                refine okX_then_ret ?_
                refine okX_again_ret ?_
                refine okX_block_ret ?_
                refine okX_meet_ret ?_
                replace h := outh h hz14
                refine okX_then_ret ?_
                obtain rfl := (smh h).symm
                refine okX_items [Item.blk g3 46 [(tI a1.Instr.Op), (tI a1.Instr.A), (tI a1.Instr.B), (tI a1.Instr.C), (tI a1.Instr.N)], Item.blk g2 48 [(tI a1.Instr.Op), (tI a1.Instr.A), (tI a1.Instr.B), (tI a1.Instr.C), (tI a1.Instr.N), (tL 1 lI a1.Args)], Item.blk g1 27 [(tI a0.Params), (tI a0.Regs), (tL 5 Block.ty a0.Blocks)]] (L) (pm 0 rfl (pm 0 rfl (pm 0 rfl (pr _)))) ?_
                exact okX_ret1 () Tryd.results103 rfl rfl
              · replace h := cf hb23 h
                refine okC_skip ?_
                refine okX_block_normal ?_
                refine okX_next ?_
                refine okC_region ?_
                refine okL_step 48 (tI (w64 (s16 + 1))) rfl rfl (does_add rfl rfl) ?_
                refine okL_step 40 (tI (w64 (s16 + 1))) rfl rfl (does_move rfl) ?_
                refine okL_nil ?_
                exact okX_again k (Nat.lt_succ_self k) (w64 (s16 + 1)) h (cc rfl (cc rfl (cc rfl (cc rfl (cc rfl (cc rfl cn)))))) rfl
            · replace h := cf hb18 h
              refine okC_exit ?_
              refine okX_then_exit ?_
              refine okX_again_exit ?_
              refine okX_block_hit ?_
              exact okX_meet (I := _) () (innh h) (cc rfl (cc rfl (cc rfl cn))) rfl
        · intro s11 hx
          change OkX _ _ _ [(2, (pAt g1 0)), (5, (pAt g3 0)), (6, (Ty.val (.func (.func 126) #[] #[(.pointer (some ⟨g1, 0, none⟩))])))] (Item.blk g3 46 [(tI a1.Instr.Op), (tI a1.Instr.A), (tI a1.Instr.B), (tI a1.Instr.C), (tI a1.Instr.N)] :: Item.blk g2 48 [(tI a1.Instr.Op), (tI a1.Instr.A), (tI a1.Instr.B), (tI a1.Instr.C), (tI a1.Instr.N), (tL 1 lI a1.Args)] :: Item.blk g1 27 [(tI a0.Params), (tI a0.Regs), (tL 5 Block.ty a0.Blocks)] :: L)
          have hx : z13 = .inl s11 := hx
          subst hx
          replace h := hz14
          refine okX_next ?_
          refine okC_seq ?_
          refine okC_region ?_
          refine okL_step 9 (tB false) rfl rfl (does_assign rfl) ?_
          refine okL_step 10 (tB false) rfl rfl (does_assign rfl) ?_
          refine okL_step 11 (tB false) rfl rfl (does_assign rfl) ?_
          refine okL_step 12 (tB false) rfl rfl (does_assign rfl) ?_
          refine okL_nil ?_
          refine okX_next ?_
          obtain ⟨z26, h28, hz27⟩ := bs h
          refine okC_meet (X := (Bool × Bool × Bool × Bool)) (fun x => z26 = x) (fun x : (Bool × Bool × Bool × Bool) => [(2, (pAt g1 0)), (5, (pAt g3 0)), (6, (Ty.val (.func (.func 126) #[] #[(.pointer (some ⟨g1, 0, none⟩))]))), (9, (tB x.1)), (10, (tB x.2.1)), (11, (tB x.2.2.1)), (12, (tB x.2.2.2))]) (fun x : (Bool × Bool × Bool × Bool) => Item.blk g3 46 [(tI a1.Instr.Op), (tI a1.Instr.A), (tI a1.Instr.B), (tI a1.Instr.C), (tI a1.Instr.N)] :: Item.blk g2 48 [(tI a1.Instr.Op), (tI a1.Instr.A), (tI a1.Instr.B), (tI a1.Instr.C), (tI a1.Instr.N), (tL 1 lI a1.Args)] :: Item.blk g1 27 [(tI a0.Params), (tI a0.Regs), (tL 5 Block.ty a0.Blocks)] :: L) ?_ ?_
          · refine okC_seq ?_
            refine okC_region ?_
            refine okL_step 49 (pAt g3 0) rfl rfl (does_fieldAddrP 0 Tryd.underlying46 rfl Tryd.sizeOf3 rfl rfl) ?_
            refine okL_step 50 (tI a1.Instr.Op) rfl rfl (does_loadB1 Tryd.isAgg3 rfl 0 rfl rfl) ?_
            obtain ⟨r29, hc30, h28⟩ := bs h28
            refine okL_step 51 (tI r29) rfl rfl (does_call0 (c_vcode_form a1.Instr.Op r29 hc30) rfl Tryd.call127 rfl) ?_
            refine okL_nil ?_
            refine okX_next ?_
            refine okC_block ?_
            refine okC_seq ?_
            refine okC_region ?_
            refine okL_step 53 (tB (r29 == 2)) rfl rfl (does_eql rfl rfl) ?_
            refine okL_step 52 (tB (r29 == 2)) rfl rfl (does_assign rfl) ?_
            refine okL_nil ?_
            refine okX_next ?_
            refine okC_cond (b := (r29 == 2)) rfl (fun hb31 => ?_) (fun hb31 => ?_)
            · replace h28 := ct hb31 h28
              refine okC_region ?_
              refine okL_step 9 (tB true) rfl rfl (does_assign rfl) ?_
              refine okL_nil ?_
              refine okX_block_normal ?_
              exact okX_meet (I := _) (true, false, false, false) (smh h28) (cc rfl (cc rfl (cc rfl (cc rfl (cc rfl (cc rfl (cc rfl cn))))))) rfl
            · replace h28 := cf hb31 h28
              refine okC_seq ?_
              refine okC_region ?_
              refine okL_step 55 (tB (r29 == 3)) rfl rfl (does_eql rfl rfl) ?_
              refine okL_step 54 (tB (r29 == 3)) rfl rfl (does_assign rfl) ?_
              refine okL_nil ?_
              refine okX_next ?_
              refine okC_cond (b := (r29 == 3)) rfl (fun hb32 => ?_) (fun hb32 => ?_)
              · replace h28 := ct hb32 h28
                refine okC_region ?_
                refine okL_step 9 (tB true) rfl rfl (does_assign rfl) ?_
                refine okL_step 10 (tB true) rfl rfl (does_assign rfl) ?_
                refine okL_nil ?_
                refine okX_block_normal ?_
                exact okX_meet (I := _) (true, true, false, false) (smh h28) (cc rfl (cc rfl (cc rfl (cc rfl (cc rfl (cc rfl (cc rfl cn))))))) rfl
              · replace h28 := cf hb32 h28
                refine okC_seq ?_
                refine okC_region ?_
                refine okL_step 57 (tB (r29 == 4)) rfl rfl (does_eql rfl rfl) ?_
                refine okL_step 56 (tB (r29 == 4)) rfl rfl (does_assign rfl) ?_
                refine okL_nil ?_
                refine okX_next ?_
                refine okC_cond (b := (r29 == 4)) rfl (fun hb33 => ?_) (fun hb33 => ?_)
                · replace h28 := ct hb33 h28
                  refine okC_region ?_
                  refine okL_step 9 (tB true) rfl rfl (does_assign rfl) ?_
                  refine okL_step 10 (tB true) rfl rfl (does_assign rfl) ?_
                  refine okL_step 11 (tB true) rfl rfl (does_assign rfl) ?_
                  refine okL_nil ?_
                  refine okX_block_normal ?_
                  exact okX_meet (I := _) (true, true, true, false) (smh h28) (cc rfl (cc rfl (cc rfl (cc rfl (cc rfl (cc rfl (cc rfl cn))))))) rfl
                · replace h28 := cf hb33 h28
                  refine okC_seq ?_
                  refine okC_region ?_
                  refine okL_step 59 (tB (r29 == 5)) rfl rfl (does_eql rfl rfl) ?_
                  refine okL_step 58 (tB (r29 == 5)) rfl rfl (does_assign rfl) ?_
                  refine okL_nil ?_
                  refine okX_next ?_
                  refine okC_cond (b := (r29 == 5)) rfl (fun hb34 => ?_) (fun hb34 => ?_)
                  · replace h28 := ct hb34 h28
                    refine okC_region ?_
                    refine okL_step 9 (tB true) rfl rfl (does_assign rfl) ?_
                    refine okL_step 12 (tB true) rfl rfl (does_assign rfl) ?_
                    refine okL_nil ?_
                    refine okX_block_normal ?_
                    exact okX_meet (I := _) (true, false, false, true) (smh h28) (cc rfl (cc rfl (cc rfl (cc rfl (cc rfl (cc rfl (cc rfl cn))))))) rfl
                  · replace h28 := cf hb34 h28
                    refine okC_seq ?_
                    refine okC_region ?_
                    refine okL_step 61 (tB (r29 == 7)) rfl rfl (does_eql rfl rfl) ?_
                    refine okL_step 60 (tB (r29 == 7)) rfl rfl (does_assign rfl) ?_
                    refine okL_nil ?_
                    refine okX_next ?_
                    refine okC_cond (b := (r29 == 7)) rfl (fun hb35 => ?_) (fun hb35 => ?_)
                    · replace h28 := ct hb35 h28
                      refine okC_region ?_
                      refine okL_step 9 (tB true) rfl rfl (does_assign rfl) ?_
                      refine okL_step 10 (tB true) rfl rfl (does_assign rfl) ?_
                      refine okL_step 12 (tB true) rfl rfl (does_assign rfl) ?_
                      refine okL_nil ?_
                      refine okX_block_normal ?_
                      exact okX_meet (I := _) (true, true, false, true) (smh h28) (cc rfl (cc rfl (cc rfl (cc rfl (cc rfl (cc rfl (cc rfl cn))))))) rfl
                    · replace h28 := cf hb35 h28
                      refine okC_skip ?_
                      refine okX_block_normal ?_
                      exact okX_meet (I := _) (false, false, false, false) (smh h28) (cc rfl (cc rfl (cc rfl (cc rfl (cc rfl (cc rfl (cc rfl cn))))))) rfl
          · intro s24 hx
            change OkC _ _ _ [(2, (pAt g1 0)), (5, (pAt g3 0)), (6, (Ty.val (.func (.func 126) #[] #[(.pointer (some ⟨g1, 0, none⟩))]))), (9, (tB s24.1)), (10, (tB s24.2.1)), (11, (tB s24.2.2.1)), (12, (tB s24.2.2.2))] (Item.blk g3 46 [(tI a1.Instr.Op), (tI a1.Instr.A), (tI a1.Instr.B), (tI a1.Instr.C), (tI a1.Instr.N)] :: Item.blk g2 48 [(tI a1.Instr.Op), (tI a1.Instr.A), (tI a1.Instr.B), (tI a1.Instr.C), (tI a1.Instr.N), (tL 1 lI a1.Args)] :: Item.blk g1 27 [(tI a0.Params), (tI a0.Regs), (tL 5 Block.ty a0.Blocks)] :: L)
            obtain rfl : s24 = z26 := hx.symm
            replace h := hz27
            refine okC_seq ?_
            refine okC_seq ?_
            refine okC_region ?_
            refine okL_step 62 (tB s24.1) rfl rfl (does_move rfl) ?_
            refine okL_step 63 (tB s24.1) rfl rfl (does_move rfl) ?_
            obtain ⟨z37, h39, hz38⟩ := bs h
            refine okL_meet (X := Bool) 6 (fun x => z37 = x) (fun x : Bool => [(2, (pAt g1 0)), (5, (pAt g3 0)), (6, (Ty.val (.func (.func 126) #[] #[(.pointer (some ⟨g1, 0, none⟩))]))), (9, (tB s24.1)), (10, (tB s24.2.1)), (11, (tB s24.2.2.1)), (12, (tB s24.2.2.2)), (69, (tB x))]) (fun x : Bool => Item.blk g3 46 [(tI a1.Instr.Op), (tI a1.Instr.A), (tI a1.Instr.B), (tI a1.Instr.C), (tI a1.Instr.N)] :: Item.blk g2 48 [(tI a1.Instr.Op), (tI a1.Instr.A), (tI a1.Instr.B), (tI a1.Instr.C), (tI a1.Instr.N), (tL 1 lI a1.Args)] :: Item.blk g1 27 [(tI a0.Params), (tI a0.Regs), (tL 5 Block.ty a0.Blocks)] :: L) _ rfl ?_ ?_
            · refine okL_split s24.1 (fun hb36 => ?_) (fun hb36 => ?_)
              · replace h39 := ct hb36 h39
                refine okL_guard 64 (Ty.val (.func (.func 126) #[] #[(.pointer (some ⟨g1, 0, none⟩))])) 63 s24.1 rfl rfl hb36 rfl rfl (does_move rfl) ?_
                refine okL_guard 65 (pAt g3 1) 63 s24.1 rfl rfl hb36 rfl rfl (does_fieldAddrP 1 Tryd.underlying46 rfl Tryd.sizeOf3 rfl rfl) ?_
                refine okL_guard 66 (tI a1.Instr.A) 63 s24.1 rfl rfl hb36 rfl rfl (does_loadB1 Tryd.isAgg3 rfl 0 rfl rfl) ?_
                obtain ⟨r41, hc42, h39⟩ := bs h39
                refine okL_guard 67 (tB r41) 63 s24.1 rfl rfl hb36 rfl rfl (does_callC (As := [(tI a1.Instr.A)]) (Cs := [(pAt g1 0)]) 2 rfl (c_vcode_validInstr_1 a1.Instr.A a0 g1 r41 hc42) rfl Tryd.call126 rfl rfl rfl) ?_
                refine okL_guard 68 (tB (!r41)) 63 s24.1 rfl rfl hb36 rfl rfl (does_not rfl) ?_
                refine okL_step 69 (tB (!r41)) rfl rfl (does_pick_t s24.1 rfl hb36 rfl) ?_
                refine okL_nil ?_
                exact okX_meet (I := _) (!r41) (smh h39) (cc rfl (cc rfl (cc rfl (cc rfl (cc rfl (cc rfl (cc rfl (cc rfl cn)))))))) rfl
              · replace h39 := cf hb36 h39
                refine okL_skip 64 63 s24.1 rfl rfl hb36 rfl rfl ?_
                refine okL_skip 65 63 s24.1 rfl rfl hb36 rfl rfl ?_
                refine okL_skip 66 63 s24.1 rfl rfl hb36 rfl rfl ?_
                refine okL_skip 67 63 s24.1 rfl rfl hb36 rfl rfl ?_
                refine okL_skip 68 63 s24.1 rfl rfl hb36 rfl rfl ?_
                refine okL_step 69 (tB false) rfl rfl (does_pick_f s24.1 rfl hb36 rfl) ?_
                refine okL_nil ?_
                exact okX_meet (I := _) false (smh h39) (cc rfl (cc rfl (cc rfl (cc rfl (cc rfl (cc rfl (cc rfl (cc rfl cn)))))))) rfl
            · intro x40 hx
              obtain rfl : x40 = z37 := hx.symm
              replace h := hz38
              change OkL _ _ _ _ [(2, (pAt g1 0)), (5, (pAt g3 0)), (6, (Ty.val (.func (.func 126) #[] #[(.pointer (some ⟨g1, 0, none⟩))]))), (9, (tB s24.1)), (10, (tB s24.2.1)), (11, (tB s24.2.2.1)), (12, (tB s24.2.2.2)), (69, (tB x40))] (Item.blk g3 46 [(tI a1.Instr.Op), (tI a1.Instr.A), (tI a1.Instr.B), (tI a1.Instr.C), (tI a1.Instr.N)] :: Item.blk g2 48 [(tI a1.Instr.Op), (tI a1.Instr.A), (tI a1.Instr.B), (tI a1.Instr.C), (tI a1.Instr.N), (tL 1 lI a1.Args)] :: Item.blk g1 27 [(tI a0.Params), (tI a0.Regs), (tL 5 Block.ty a0.Blocks)] :: L)
              refine okL_step 70 (tB x40) rfl rfl (does_move rfl) ?_
              obtain ⟨z44, h46, hz45⟩ := bs h
              refine okL_meet (X := Bool) 9 (fun x => z44 = x) (fun x : Bool => [(2, (pAt g1 0)), (5, (pAt g3 0)), (6, (Ty.val (.func (.func 126) #[] #[(.pointer (some ⟨g1, 0, none⟩))]))), (9, (tB s24.1)), (10, (tB s24.2.1)), (11, (tB s24.2.2.1)), (12, (tB s24.2.2.2)), (79, (tB x))]) (fun x : Bool => Item.blk g3 46 [(tI a1.Instr.Op), (tI a1.Instr.A), (tI a1.Instr.B), (tI a1.Instr.C), (tI a1.Instr.N)] :: Item.blk g2 48 [(tI a1.Instr.Op), (tI a1.Instr.A), (tI a1.Instr.B), (tI a1.Instr.C), (tI a1.Instr.N), (tL 1 lI a1.Args)] :: Item.blk g1 27 [(tI a0.Params), (tI a0.Regs), (tL 5 Block.ty a0.Blocks)] :: L) _ rfl ?_ ?_
              · refine okL_split x40 (fun hb43 => ?_) (fun hb43 => ?_)
                · replace h46 := ct hb43 h46
                  refine okL_skip 71 70 x40 rfl rfl hb43 rfl rfl ?_
                  refine okL_skip 72 70 x40 rfl rfl hb43 rfl rfl ?_
                  refine okL_skipU 73 72 rfl rfl rfl rfl ?_
                  refine okL_skipU 74 72 rfl rfl rfl rfl ?_
                  refine okL_skipU 75 72 rfl rfl rfl rfl ?_
                  refine okL_skipU 76 72 rfl rfl rfl rfl ?_
                  refine okL_skipU 77 72 rfl rfl rfl rfl ?_
                  refine okL_skip 78 70 x40 rfl rfl hb43 rfl rfl ?_
                  refine okL_step 79 (tB true) rfl rfl (does_pick_t x40 rfl hb43 rfl) ?_
                  refine okL_nil ?_
                  exact okX_meet (I := _) true (smh h46) (cc rfl (cc rfl (cc rfl (cc rfl (cc rfl (cc rfl (cc rfl (cc rfl cn)))))))) rfl
                · replace h46 := cf hb43 h46
                  refine okL_guard 71 (tB s24.2.1) 70 x40 rfl rfl hb43 rfl rfl (does_move rfl) ?_
                  refine okL_guard 72 (tB s24.2.1) 70 x40 rfl rfl hb43 rfl rfl (does_move rfl) ?_
                  obtain ⟨z49, h51, hz50⟩ := bs h46
                  refine okL_meet (X := Bool) 6 (fun x => z49 = x) (fun x : Bool => [(2, (pAt g1 0)), (5, (pAt g3 0)), (6, (Ty.val (.func (.func 126) #[] #[(.pointer (some ⟨g1, 0, none⟩))]))), (9, (tB s24.1)), (10, (tB s24.2.1)), (11, (tB s24.2.2.1)), (12, (tB s24.2.2.2)), (70, (tB x40)), (78, (tB x))]) (fun x : Bool => Item.blk g3 46 [(tI a1.Instr.Op), (tI a1.Instr.A), (tI a1.Instr.B), (tI a1.Instr.C), (tI a1.Instr.N)] :: Item.blk g2 48 [(tI a1.Instr.Op), (tI a1.Instr.A), (tI a1.Instr.B), (tI a1.Instr.C), (tI a1.Instr.N), (tL 1 lI a1.Args)] :: Item.blk g1 27 [(tI a0.Params), (tI a0.Regs), (tL 5 Block.ty a0.Blocks)] :: L) _ rfl ?_ ?_
                  · refine okL_split s24.2.1 (fun hb48 => ?_) (fun hb48 => ?_)
                    · replace h51 := ct hb48 h51
                      refine okL_guard 73 (Ty.val (.func (.func 126) #[] #[(.pointer (some ⟨g1, 0, none⟩))])) 72 s24.2.1 rfl rfl hb48 rfl rfl (does_move rfl) ?_
                      refine okL_guard 74 (pAt g3 2) 72 s24.2.1 rfl rfl hb48 rfl rfl (does_fieldAddrP 2 Tryd.underlying46 rfl Tryd.sizeOf3 rfl rfl) ?_
                      refine okL_guard 75 (tI a1.Instr.B) 72 s24.2.1 rfl rfl hb48 rfl rfl (does_loadB1 Tryd.isAgg3 rfl 0 rfl rfl) ?_
                      obtain ⟨r53, hc54, h51⟩ := bs h51
                      refine okL_guard 76 (tB r53) 72 s24.2.1 rfl rfl hb48 rfl rfl (does_callC (As := [(tI a1.Instr.B)]) (Cs := [(pAt g1 0)]) 2 rfl (c_vcode_validInstr_1 a1.Instr.B a0 g1 r53 hc54) rfl Tryd.call126 rfl rfl rfl) ?_
                      refine okL_guard 77 (tB (!r53)) 72 s24.2.1 rfl rfl hb48 rfl rfl (does_not rfl) ?_
                      refine okL_guard 78 (tB (!r53)) 70 x40 rfl rfl hb43 rfl rfl (does_pick_t s24.2.1 rfl hb48 rfl) ?_
                      refine okL_nil ?_
                      exact okX_meet (I := _) (!r53) (smh h51) (cc rfl (cc rfl (cc rfl (cc rfl (cc rfl (cc rfl (cc rfl (cc rfl (cc rfl cn))))))))) rfl
                    · replace h51 := cf hb48 h51
                      refine okL_skip 73 72 s24.2.1 rfl rfl hb48 rfl rfl ?_
                      refine okL_skip 74 72 s24.2.1 rfl rfl hb48 rfl rfl ?_
                      refine okL_skip 75 72 s24.2.1 rfl rfl hb48 rfl rfl ?_
                      refine okL_skip 76 72 s24.2.1 rfl rfl hb48 rfl rfl ?_
                      refine okL_skip 77 72 s24.2.1 rfl rfl hb48 rfl rfl ?_
                      refine okL_guard 78 (tB false) 70 x40 rfl rfl hb43 rfl rfl (does_pick_f s24.2.1 rfl hb48 rfl) ?_
                      refine okL_nil ?_
                      exact okX_meet (I := _) false (smh h51) (cc rfl (cc rfl (cc rfl (cc rfl (cc rfl (cc rfl (cc rfl (cc rfl (cc rfl cn))))))))) rfl
                  · intro x52 hx
                    obtain rfl : x52 = z49 := hx.symm
                    replace h46 := hz50
                    change OkL _ _ _ _ [(2, (pAt g1 0)), (5, (pAt g3 0)), (6, (Ty.val (.func (.func 126) #[] #[(.pointer (some ⟨g1, 0, none⟩))]))), (9, (tB s24.1)), (10, (tB s24.2.1)), (11, (tB s24.2.2.1)), (12, (tB s24.2.2.2)), (70, (tB x40)), (78, (tB x52))] (Item.blk g3 46 [(tI a1.Instr.Op), (tI a1.Instr.A), (tI a1.Instr.B), (tI a1.Instr.C), (tI a1.Instr.N)] :: Item.blk g2 48 [(tI a1.Instr.Op), (tI a1.Instr.A), (tI a1.Instr.B), (tI a1.Instr.C), (tI a1.Instr.N), (tL 1 lI a1.Args)] :: Item.blk g1 27 [(tI a0.Params), (tI a0.Regs), (tL 5 Block.ty a0.Blocks)] :: L)
                    refine okL_step 79 (tB x52) rfl rfl (does_pick_f x40 rfl hb43 rfl) ?_
                    refine okL_nil ?_
                    exact okX_meet (I := _) x52 (smh h46) (cc rfl (cc rfl (cc rfl (cc rfl (cc rfl (cc rfl (cc rfl (cc rfl cn)))))))) rfl
              · intro x47 hx
                obtain rfl : x47 = z44 := hx.symm
                replace h := hz45
                change OkL _ _ _ _ [(2, (pAt g1 0)), (5, (pAt g3 0)), (6, (Ty.val (.func (.func 126) #[] #[(.pointer (some ⟨g1, 0, none⟩))]))), (9, (tB s24.1)), (10, (tB s24.2.1)), (11, (tB s24.2.2.1)), (12, (tB s24.2.2.2)), (79, (tB x47))] (Item.blk g3 46 [(tI a1.Instr.Op), (tI a1.Instr.A), (tI a1.Instr.B), (tI a1.Instr.C), (tI a1.Instr.N)] :: Item.blk g2 48 [(tI a1.Instr.Op), (tI a1.Instr.A), (tI a1.Instr.B), (tI a1.Instr.C), (tI a1.Instr.N), (tL 1 lI a1.Args)] :: Item.blk g1 27 [(tI a0.Params), (tI a0.Regs), (tL 5 Block.ty a0.Blocks)] :: L)
                refine okL_step 80 (tB x47) rfl rfl (does_move rfl) ?_
                obtain ⟨z56, h58, hz57⟩ := bs h
                refine okL_meet (X := Bool) 9 (fun x => z56 = x) (fun x : Bool => [(2, (pAt g1 0)), (5, (pAt g3 0)), (9, (tB s24.1)), (10, (tB s24.2.1)), (11, (tB s24.2.2.1)), (12, (tB s24.2.2.2)), (89, (tB x))]) (fun x : Bool => Item.blk g3 46 [(tI a1.Instr.Op), (tI a1.Instr.A), (tI a1.Instr.B), (tI a1.Instr.C), (tI a1.Instr.N)] :: Item.blk g2 48 [(tI a1.Instr.Op), (tI a1.Instr.A), (tI a1.Instr.B), (tI a1.Instr.C), (tI a1.Instr.N), (tL 1 lI a1.Args)] :: Item.blk g1 27 [(tI a0.Params), (tI a0.Regs), (tL 5 Block.ty a0.Blocks)] :: L) _ rfl ?_ ?_
                · refine okL_split x47 (fun hb55 => ?_) (fun hb55 => ?_)
                  · replace h58 := ct hb55 h58
                    refine okL_skip 81 80 x47 rfl rfl hb55 rfl rfl ?_
                    refine okL_skip 82 80 x47 rfl rfl hb55 rfl rfl ?_
                    refine okL_skipU 83 82 rfl rfl rfl rfl ?_
                    refine okL_skipU 84 82 rfl rfl rfl rfl ?_
                    refine okL_skipU 85 82 rfl rfl rfl rfl ?_
                    refine okL_skipU 86 82 rfl rfl rfl rfl ?_
                    refine okL_skipU 87 82 rfl rfl rfl rfl ?_
                    refine okL_skip 88 80 x47 rfl rfl hb55 rfl rfl ?_
                    refine okL_step 89 (tB true) rfl rfl (does_pick_t x47 rfl hb55 rfl) ?_
                    refine okL_nil ?_
                    exact okX_meet (I := _) true (smh h58) (cc rfl (cc rfl (cc rfl (cc rfl (cc rfl (cc rfl (cc rfl cn))))))) rfl
                  · replace h58 := cf hb55 h58
                    refine okL_guard 81 (tB s24.2.2.1) 80 x47 rfl rfl hb55 rfl rfl (does_move rfl) ?_
                    refine okL_guard 82 (tB s24.2.2.1) 80 x47 rfl rfl hb55 rfl rfl (does_move rfl) ?_
                    obtain ⟨z61, h63, hz62⟩ := bs h58
                    refine okL_meet (X := Bool) 6 (fun x => z61 = x) (fun x : Bool => [(2, (pAt g1 0)), (5, (pAt g3 0)), (9, (tB s24.1)), (10, (tB s24.2.1)), (11, (tB s24.2.2.1)), (12, (tB s24.2.2.2)), (80, (tB x47)), (88, (tB x))]) (fun x : Bool => Item.blk g3 46 [(tI a1.Instr.Op), (tI a1.Instr.A), (tI a1.Instr.B), (tI a1.Instr.C), (tI a1.Instr.N)] :: Item.blk g2 48 [(tI a1.Instr.Op), (tI a1.Instr.A), (tI a1.Instr.B), (tI a1.Instr.C), (tI a1.Instr.N), (tL 1 lI a1.Args)] :: Item.blk g1 27 [(tI a0.Params), (tI a0.Regs), (tL 5 Block.ty a0.Blocks)] :: L) _ rfl ?_ ?_
                    · refine okL_split s24.2.2.1 (fun hb60 => ?_) (fun hb60 => ?_)
                      · replace h63 := ct hb60 h63
                        refine okL_guard 83 (Ty.val (.func (.func 126) #[] #[(.pointer (some ⟨g1, 0, none⟩))])) 82 s24.2.2.1 rfl rfl hb60 rfl rfl (does_move rfl) ?_
                        refine okL_guard 84 (pAt g3 3) 82 s24.2.2.1 rfl rfl hb60 rfl rfl (does_fieldAddrP 3 Tryd.underlying46 rfl Tryd.sizeOf3 rfl rfl) ?_
                        refine okL_guard 85 (tI a1.Instr.C) 82 s24.2.2.1 rfl rfl hb60 rfl rfl (does_loadB1 Tryd.isAgg3 rfl 0 rfl rfl) ?_
                        obtain ⟨r65, hc66, h63⟩ := bs h63
                        refine okL_guard 86 (tB r65) 82 s24.2.2.1 rfl rfl hb60 rfl rfl (does_callC (As := [(tI a1.Instr.C)]) (Cs := [(pAt g1 0)]) 2 rfl (c_vcode_validInstr_1 a1.Instr.C a0 g1 r65 hc66) rfl Tryd.call126 rfl rfl rfl) ?_
                        refine okL_guard 87 (tB (!r65)) 82 s24.2.2.1 rfl rfl hb60 rfl rfl (does_not rfl) ?_
                        refine okL_guard 88 (tB (!r65)) 80 x47 rfl rfl hb55 rfl rfl (does_pick_t s24.2.2.1 rfl hb60 rfl) ?_
                        refine okL_nil ?_
                        exact okX_meet (I := _) (!r65) (smh h63) (cc rfl (cc rfl (cc rfl (cc rfl (cc rfl (cc rfl (cc rfl (cc rfl cn)))))))) rfl
                      · replace h63 := cf hb60 h63
                        refine okL_skip 83 82 s24.2.2.1 rfl rfl hb60 rfl rfl ?_
                        refine okL_skip 84 82 s24.2.2.1 rfl rfl hb60 rfl rfl ?_
                        refine okL_skip 85 82 s24.2.2.1 rfl rfl hb60 rfl rfl ?_
                        refine okL_skip 86 82 s24.2.2.1 rfl rfl hb60 rfl rfl ?_
                        refine okL_skip 87 82 s24.2.2.1 rfl rfl hb60 rfl rfl ?_
                        refine okL_guard 88 (tB false) 80 x47 rfl rfl hb55 rfl rfl (does_pick_f s24.2.2.1 rfl hb60 rfl) ?_
                        refine okL_nil ?_
                        exact okX_meet (I := _) false (smh h63) (cc rfl (cc rfl (cc rfl (cc rfl (cc rfl (cc rfl (cc rfl (cc rfl cn)))))))) rfl
                    · intro x64 hx
                      obtain rfl : x64 = z61 := hx.symm
                      replace h58 := hz62
                      change OkL _ _ _ _ [(2, (pAt g1 0)), (5, (pAt g3 0)), (9, (tB s24.1)), (10, (tB s24.2.1)), (11, (tB s24.2.2.1)), (12, (tB s24.2.2.2)), (80, (tB x47)), (88, (tB x64))] (Item.blk g3 46 [(tI a1.Instr.Op), (tI a1.Instr.A), (tI a1.Instr.B), (tI a1.Instr.C), (tI a1.Instr.N)] :: Item.blk g2 48 [(tI a1.Instr.Op), (tI a1.Instr.A), (tI a1.Instr.B), (tI a1.Instr.C), (tI a1.Instr.N), (tL 1 lI a1.Args)] :: Item.blk g1 27 [(tI a0.Params), (tI a0.Regs), (tL 5 Block.ty a0.Blocks)] :: L)
                      refine okL_step 89 (tB x64) rfl rfl (does_pick_f x47 rfl hb55 rfl) ?_
                      refine okL_nil ?_
                      exact okX_meet (I := _) x64 (smh h58) (cc rfl (cc rfl (cc rfl (cc rfl (cc rfl (cc rfl (cc rfl cn))))))) rfl
                · intro x59 hx
                  obtain rfl : x59 = z56 := hx.symm
                  replace h := hz57
                  change OkL _ _ _ _ [(2, (pAt g1 0)), (5, (pAt g3 0)), (9, (tB s24.1)), (10, (tB s24.2.1)), (11, (tB s24.2.2.1)), (12, (tB s24.2.2.2)), (89, (tB x59))] (Item.blk g3 46 [(tI a1.Instr.Op), (tI a1.Instr.A), (tI a1.Instr.B), (tI a1.Instr.C), (tI a1.Instr.N)] :: Item.blk g2 48 [(tI a1.Instr.Op), (tI a1.Instr.A), (tI a1.Instr.B), (tI a1.Instr.C), (tI a1.Instr.N), (tL 1 lI a1.Args)] :: Item.blk g1 27 [(tI a0.Params), (tI a0.Regs), (tL 5 Block.ty a0.Blocks)] :: L)
                  refine okL_step 90 (tB x59) rfl rfl (does_move rfl) ?_
                  refine okL_meet (X := Bool) 8 (fun x => x = (x59 || ((!s24.1) && (a1.Instr.A != 0)))) (fun x : Bool => [(2, (pAt g1 0)), (5, (pAt g3 0)), (10, (tB s24.2.1)), (11, (tB s24.2.2.1)), (12, (tB s24.2.2.2)), (98, (tB x))]) (fun x : Bool => Item.blk g3 46 [(tI a1.Instr.Op), (tI a1.Instr.A), (tI a1.Instr.B), (tI a1.Instr.C), (tI a1.Instr.N)] :: Item.blk g2 48 [(tI a1.Instr.Op), (tI a1.Instr.A), (tI a1.Instr.B), (tI a1.Instr.C), (tI a1.Instr.N), (tL 1 lI a1.Args)] :: Item.blk g1 27 [(tI a0.Params), (tI a0.Regs), (tL 5 Block.ty a0.Blocks)] :: L) _ rfl ?_ ?_
                  · refine okL_split x59 (fun hb67 => ?_) (fun hb67 => ?_)
                    · refine okL_skip 91 90 x59 rfl rfl hb67 rfl rfl ?_
                      refine okL_skip 92 90 x59 rfl rfl hb67 rfl rfl ?_
                      refine okL_skip 93 90 x59 rfl rfl hb67 rfl rfl ?_
                      refine okL_skipU 94 93 rfl rfl rfl rfl ?_
                      refine okL_skipU 95 93 rfl rfl rfl rfl ?_
                      refine okL_skipU 96 93 rfl rfl rfl rfl ?_
                      refine okL_skip 97 90 x59 rfl rfl hb67 rfl rfl ?_
                      refine okL_step 98 (tB true) rfl rfl (does_pick_t x59 rfl hb67 rfl) ?_
                      refine okL_nil ?_
                      exact okX_meet (I := _) true (or_t hb67) (cc rfl (cc rfl (cc rfl (cc rfl (cc rfl (cc rfl cn)))))) rfl
                    · refine okL_guard 91 (tB s24.1) 90 x59 rfl rfl hb67 rfl rfl (does_move rfl) ?_
                      refine okL_guard 92 (tB (!s24.1)) 90 x59 rfl rfl hb67 rfl rfl (does_not rfl) ?_
                      refine okL_guard 93 (tB (!s24.1)) 90 x59 rfl rfl hb67 rfl rfl (does_move rfl) ?_
                      refine okL_meet (X := Bool) 4 (fun x => x = ((!s24.1) && (a1.Instr.A != 0))) (fun x : Bool => [(2, (pAt g1 0)), (5, (pAt g3 0)), (10, (tB s24.2.1)), (11, (tB s24.2.2.1)), (12, (tB s24.2.2.2)), (90, (tB x59)), (97, (tB x))]) (fun x : Bool => Item.blk g3 46 [(tI a1.Instr.Op), (tI a1.Instr.A), (tI a1.Instr.B), (tI a1.Instr.C), (tI a1.Instr.N)] :: Item.blk g2 48 [(tI a1.Instr.Op), (tI a1.Instr.A), (tI a1.Instr.B), (tI a1.Instr.C), (tI a1.Instr.N), (tL 1 lI a1.Args)] :: Item.blk g1 27 [(tI a0.Params), (tI a0.Regs), (tL 5 Block.ty a0.Blocks)] :: L) _ rfl ?_ ?_
                      · refine okL_split (!s24.1) (fun hb68 => ?_) (fun hb68 => ?_)
                        · refine okL_guard 94 (pAt g3 1) 93 (!s24.1) rfl rfl hb68 rfl rfl (does_fieldAddrP 1 Tryd.underlying46 rfl Tryd.sizeOf3 rfl rfl) ?_
                          refine okL_guard 95 (tI a1.Instr.A) 93 (!s24.1) rfl rfl hb68 rfl rfl (does_loadB1 Tryd.isAgg3 rfl 0 rfl rfl) ?_
                          refine okL_guard 96 (tB (a1.Instr.A != 0)) 93 (!s24.1) rfl rfl hb68 rfl rfl (does_neq rfl rfl) ?_
                          refine okL_guard 97 (tB (a1.Instr.A != 0)) 90 x59 rfl rfl hb67 rfl rfl (does_pick_t (!s24.1) rfl hb68 rfl) ?_
                          refine okL_nil ?_
                          exact okX_meet (I := _) (a1.Instr.A != 0) (and_t hb68) (cc rfl (cc rfl (cc rfl (cc rfl (cc rfl (cc rfl (cc rfl cn))))))) rfl
                        · refine okL_skip 94 93 (!s24.1) rfl rfl hb68 rfl rfl ?_
                          refine okL_skip 95 93 (!s24.1) rfl rfl hb68 rfl rfl ?_
                          refine okL_skip 96 93 (!s24.1) rfl rfl hb68 rfl rfl ?_
                          refine okL_guard 97 (tB false) 90 x59 rfl rfl hb67 rfl rfl (does_pick_f (!s24.1) rfl hb68 rfl) ?_
                          refine okL_nil ?_
                          exact okX_meet (I := _) false (and_f hb68) (cc rfl (cc rfl (cc rfl (cc rfl (cc rfl (cc rfl (cc rfl cn))))))) rfl
                      · intro x69 hx
                        subst hx
                        change OkL _ _ _ _ [(2, (pAt g1 0)), (5, (pAt g3 0)), (10, (tB s24.2.1)), (11, (tB s24.2.2.1)), (12, (tB s24.2.2.2)), (90, (tB x59)), (97, (tB ((!s24.1) && (a1.Instr.A != 0))))] (Item.blk g3 46 [(tI a1.Instr.Op), (tI a1.Instr.A), (tI a1.Instr.B), (tI a1.Instr.C), (tI a1.Instr.N)] :: Item.blk g2 48 [(tI a1.Instr.Op), (tI a1.Instr.A), (tI a1.Instr.B), (tI a1.Instr.C), (tI a1.Instr.N), (tL 1 lI a1.Args)] :: Item.blk g1 27 [(tI a0.Params), (tI a0.Regs), (tL 5 Block.ty a0.Blocks)] :: L)
                        refine okL_step 98 (tB ((!s24.1) && (a1.Instr.A != 0))) rfl rfl (does_pick_f x59 rfl hb67 rfl) ?_
                        refine okL_nil ?_
                        exact okX_meet (I := _) ((!s24.1) && (a1.Instr.A != 0)) (or_f hb67) (cc rfl (cc rfl (cc rfl (cc rfl (cc rfl (cc rfl cn)))))) rfl
                  · intro x101 hx
                    subst hx
                    change OkL _ _ _ _ [(2, (pAt g1 0)), (5, (pAt g3 0)), (10, (tB s24.2.1)), (11, (tB s24.2.2.1)), (12, (tB s24.2.2.2)), (98, (tB (x59 || ((!s24.1) && (a1.Instr.A != 0)))))] (Item.blk g3 46 [(tI a1.Instr.Op), (tI a1.Instr.A), (tI a1.Instr.B), (tI a1.Instr.C), (tI a1.Instr.N)] :: Item.blk g2 48 [(tI a1.Instr.Op), (tI a1.Instr.A), (tI a1.Instr.B), (tI a1.Instr.C), (tI a1.Instr.N), (tL 1 lI a1.Args)] :: Item.blk g1 27 [(tI a0.Params), (tI a0.Regs), (tL 5 Block.ty a0.Blocks)] :: L)
                    refine okL_step 99 (tB (x59 || ((!s24.1) && (a1.Instr.A != 0)))) rfl rfl (does_move rfl) ?_
                    refine okL_meet (X := Bool) 8 (fun x => x = ((x59 || ((!s24.1) && (a1.Instr.A != 0))) || ((!s24.2.1) && (a1.Instr.B != 0)))) (fun x : Bool => [(2, (pAt g1 0)), (5, (pAt g3 0)), (11, (tB s24.2.2.1)), (12, (tB s24.2.2.2)), (107, (tB x))]) (fun x : Bool => Item.blk g3 46 [(tI a1.Instr.Op), (tI a1.Instr.A), (tI a1.Instr.B), (tI a1.Instr.C), (tI a1.Instr.N)] :: Item.blk g2 48 [(tI a1.Instr.Op), (tI a1.Instr.A), (tI a1.Instr.B), (tI a1.Instr.C), (tI a1.Instr.N), (tL 1 lI a1.Args)] :: Item.blk g1 27 [(tI a0.Params), (tI a0.Regs), (tL 5 Block.ty a0.Blocks)] :: L) _ rfl ?_ ?_
                    · refine okL_split (x59 || ((!s24.1) && (a1.Instr.A != 0))) (fun hb70 => ?_) (fun hb70 => ?_)
                      · refine okL_skip 100 99 (x59 || ((!s24.1) && (a1.Instr.A != 0))) rfl rfl hb70 rfl rfl ?_
                        refine okL_skip 101 99 (x59 || ((!s24.1) && (a1.Instr.A != 0))) rfl rfl hb70 rfl rfl ?_
                        refine okL_skip 102 99 (x59 || ((!s24.1) && (a1.Instr.A != 0))) rfl rfl hb70 rfl rfl ?_
                        refine okL_skipU 103 102 rfl rfl rfl rfl ?_
                        refine okL_skipU 104 102 rfl rfl rfl rfl ?_
                        refine okL_skipU 105 102 rfl rfl rfl rfl ?_
                        refine okL_skip 106 99 (x59 || ((!s24.1) && (a1.Instr.A != 0))) rfl rfl hb70 rfl rfl ?_
                        refine okL_step 107 (tB true) rfl rfl (does_pick_t (x59 || ((!s24.1) && (a1.Instr.A != 0))) rfl hb70 rfl) ?_
                        refine okL_nil ?_
                        exact okX_meet (I := _) true (or_t hb70) (cc rfl (cc rfl (cc rfl (cc rfl (cc rfl cn))))) rfl
                      · refine okL_guard 100 (tB s24.2.1) 99 (x59 || ((!s24.1) && (a1.Instr.A != 0))) rfl rfl hb70 rfl rfl (does_move rfl) ?_
                        refine okL_guard 101 (tB (!s24.2.1)) 99 (x59 || ((!s24.1) && (a1.Instr.A != 0))) rfl rfl hb70 rfl rfl (does_not rfl) ?_
                        refine okL_guard 102 (tB (!s24.2.1)) 99 (x59 || ((!s24.1) && (a1.Instr.A != 0))) rfl rfl hb70 rfl rfl (does_move rfl) ?_
                        refine okL_meet (X := Bool) 4 (fun x => x = ((!s24.2.1) && (a1.Instr.B != 0))) (fun x : Bool => [(2, (pAt g1 0)), (5, (pAt g3 0)), (11, (tB s24.2.2.1)), (12, (tB s24.2.2.2)), (99, (tB (x59 || ((!s24.1) && (a1.Instr.A != 0))))), (106, (tB x))]) (fun x : Bool => Item.blk g3 46 [(tI a1.Instr.Op), (tI a1.Instr.A), (tI a1.Instr.B), (tI a1.Instr.C), (tI a1.Instr.N)] :: Item.blk g2 48 [(tI a1.Instr.Op), (tI a1.Instr.A), (tI a1.Instr.B), (tI a1.Instr.C), (tI a1.Instr.N), (tL 1 lI a1.Args)] :: Item.blk g1 27 [(tI a0.Params), (tI a0.Regs), (tL 5 Block.ty a0.Blocks)] :: L) _ rfl ?_ ?_
                        · refine okL_split (!s24.2.1) (fun hb71 => ?_) (fun hb71 => ?_)
                          · refine okL_guard 103 (pAt g3 2) 102 (!s24.2.1) rfl rfl hb71 rfl rfl (does_fieldAddrP 2 Tryd.underlying46 rfl Tryd.sizeOf3 rfl rfl) ?_
                            refine okL_guard 104 (tI a1.Instr.B) 102 (!s24.2.1) rfl rfl hb71 rfl rfl (does_loadB1 Tryd.isAgg3 rfl 0 rfl rfl) ?_
                            refine okL_guard 105 (tB (a1.Instr.B != 0)) 102 (!s24.2.1) rfl rfl hb71 rfl rfl (does_neq rfl rfl) ?_
                            refine okL_guard 106 (tB (a1.Instr.B != 0)) 99 (x59 || ((!s24.1) && (a1.Instr.A != 0))) rfl rfl hb70 rfl rfl (does_pick_t (!s24.2.1) rfl hb71 rfl) ?_
                            refine okL_nil ?_
                            exact okX_meet (I := _) (a1.Instr.B != 0) (and_t hb71) (cc rfl (cc rfl (cc rfl (cc rfl (cc rfl (cc rfl cn)))))) rfl
                          · refine okL_skip 103 102 (!s24.2.1) rfl rfl hb71 rfl rfl ?_
                            refine okL_skip 104 102 (!s24.2.1) rfl rfl hb71 rfl rfl ?_
                            refine okL_skip 105 102 (!s24.2.1) rfl rfl hb71 rfl rfl ?_
                            refine okL_guard 106 (tB false) 99 (x59 || ((!s24.1) && (a1.Instr.A != 0))) rfl rfl hb70 rfl rfl (does_pick_f (!s24.2.1) rfl hb71 rfl) ?_
                            refine okL_nil ?_
                            exact okX_meet (I := _) false (and_f hb71) (cc rfl (cc rfl (cc rfl (cc rfl (cc rfl (cc rfl cn)))))) rfl
                        · intro x72 hx
                          subst hx
                          change OkL _ _ _ _ [(2, (pAt g1 0)), (5, (pAt g3 0)), (11, (tB s24.2.2.1)), (12, (tB s24.2.2.2)), (99, (tB (x59 || ((!s24.1) && (a1.Instr.A != 0))))), (106, (tB ((!s24.2.1) && (a1.Instr.B != 0))))] (Item.blk g3 46 [(tI a1.Instr.Op), (tI a1.Instr.A), (tI a1.Instr.B), (tI a1.Instr.C), (tI a1.Instr.N)] :: Item.blk g2 48 [(tI a1.Instr.Op), (tI a1.Instr.A), (tI a1.Instr.B), (tI a1.Instr.C), (tI a1.Instr.N), (tL 1 lI a1.Args)] :: Item.blk g1 27 [(tI a0.Params), (tI a0.Regs), (tL 5 Block.ty a0.Blocks)] :: L)
                          refine okL_step 107 (tB ((!s24.2.1) && (a1.Instr.B != 0))) rfl rfl (does_pick_f (x59 || ((!s24.1) && (a1.Instr.A != 0))) rfl hb70 rfl) ?_
                          refine okL_nil ?_
                          exact okX_meet (I := _) ((!s24.2.1) && (a1.Instr.B != 0)) (or_f hb70) (cc rfl (cc rfl (cc rfl (cc rfl (cc rfl cn))))) rfl
                    · intro x100 hx
                      subst hx
                      change OkL _ _ _ _ [(2, (pAt g1 0)), (5, (pAt g3 0)), (11, (tB s24.2.2.1)), (12, (tB s24.2.2.2)), (107, (tB ((x59 || ((!s24.1) && (a1.Instr.A != 0))) || ((!s24.2.1) && (a1.Instr.B != 0)))))] (Item.blk g3 46 [(tI a1.Instr.Op), (tI a1.Instr.A), (tI a1.Instr.B), (tI a1.Instr.C), (tI a1.Instr.N)] :: Item.blk g2 48 [(tI a1.Instr.Op), (tI a1.Instr.A), (tI a1.Instr.B), (tI a1.Instr.C), (tI a1.Instr.N), (tL 1 lI a1.Args)] :: Item.blk g1 27 [(tI a0.Params), (tI a0.Regs), (tL 5 Block.ty a0.Blocks)] :: L)
                      refine okL_step 108 (tB ((x59 || ((!s24.1) && (a1.Instr.A != 0))) || ((!s24.2.1) && (a1.Instr.B != 0)))) rfl rfl (does_move rfl) ?_
                      refine okL_meet (X := Bool) 8 (fun x => x = (((x59 || ((!s24.1) && (a1.Instr.A != 0))) || ((!s24.2.1) && (a1.Instr.B != 0))) || ((!s24.2.2.1) && (a1.Instr.C != 0)))) (fun x : Bool => [(2, (pAt g1 0)), (5, (pAt g3 0)), (12, (tB s24.2.2.2)), (116, (tB x))]) (fun x : Bool => Item.blk g3 46 [(tI a1.Instr.Op), (tI a1.Instr.A), (tI a1.Instr.B), (tI a1.Instr.C), (tI a1.Instr.N)] :: Item.blk g2 48 [(tI a1.Instr.Op), (tI a1.Instr.A), (tI a1.Instr.B), (tI a1.Instr.C), (tI a1.Instr.N), (tL 1 lI a1.Args)] :: Item.blk g1 27 [(tI a0.Params), (tI a0.Regs), (tL 5 Block.ty a0.Blocks)] :: L) _ rfl ?_ ?_
                      · refine okL_split ((x59 || ((!s24.1) && (a1.Instr.A != 0))) || ((!s24.2.1) && (a1.Instr.B != 0))) (fun hb73 => ?_) (fun hb73 => ?_)
                        · refine okL_skip 109 108 ((x59 || ((!s24.1) && (a1.Instr.A != 0))) || ((!s24.2.1) && (a1.Instr.B != 0))) rfl rfl hb73 rfl rfl ?_
                          refine okL_skip 110 108 ((x59 || ((!s24.1) && (a1.Instr.A != 0))) || ((!s24.2.1) && (a1.Instr.B != 0))) rfl rfl hb73 rfl rfl ?_
                          refine okL_skip 111 108 ((x59 || ((!s24.1) && (a1.Instr.A != 0))) || ((!s24.2.1) && (a1.Instr.B != 0))) rfl rfl hb73 rfl rfl ?_
                          refine okL_skipU 112 111 rfl rfl rfl rfl ?_
                          refine okL_skipU 113 111 rfl rfl rfl rfl ?_
                          refine okL_skipU 114 111 rfl rfl rfl rfl ?_
                          refine okL_skip 115 108 ((x59 || ((!s24.1) && (a1.Instr.A != 0))) || ((!s24.2.1) && (a1.Instr.B != 0))) rfl rfl hb73 rfl rfl ?_
                          refine okL_step 116 (tB true) rfl rfl (does_pick_t ((x59 || ((!s24.1) && (a1.Instr.A != 0))) || ((!s24.2.1) && (a1.Instr.B != 0))) rfl hb73 rfl) ?_
                          refine okL_nil ?_
                          exact okX_meet (I := _) true (or_t hb73) (cc rfl (cc rfl (cc rfl (cc rfl cn)))) rfl
                        · refine okL_guard 109 (tB s24.2.2.1) 108 ((x59 || ((!s24.1) && (a1.Instr.A != 0))) || ((!s24.2.1) && (a1.Instr.B != 0))) rfl rfl hb73 rfl rfl (does_move rfl) ?_
                          refine okL_guard 110 (tB (!s24.2.2.1)) 108 ((x59 || ((!s24.1) && (a1.Instr.A != 0))) || ((!s24.2.1) && (a1.Instr.B != 0))) rfl rfl hb73 rfl rfl (does_not rfl) ?_
                          refine okL_guard 111 (tB (!s24.2.2.1)) 108 ((x59 || ((!s24.1) && (a1.Instr.A != 0))) || ((!s24.2.1) && (a1.Instr.B != 0))) rfl rfl hb73 rfl rfl (does_move rfl) ?_
                          refine okL_meet (X := Bool) 4 (fun x => x = ((!s24.2.2.1) && (a1.Instr.C != 0))) (fun x : Bool => [(2, (pAt g1 0)), (5, (pAt g3 0)), (12, (tB s24.2.2.2)), (108, (tB ((x59 || ((!s24.1) && (a1.Instr.A != 0))) || ((!s24.2.1) && (a1.Instr.B != 0))))), (115, (tB x))]) (fun x : Bool => Item.blk g3 46 [(tI a1.Instr.Op), (tI a1.Instr.A), (tI a1.Instr.B), (tI a1.Instr.C), (tI a1.Instr.N)] :: Item.blk g2 48 [(tI a1.Instr.Op), (tI a1.Instr.A), (tI a1.Instr.B), (tI a1.Instr.C), (tI a1.Instr.N), (tL 1 lI a1.Args)] :: Item.blk g1 27 [(tI a0.Params), (tI a0.Regs), (tL 5 Block.ty a0.Blocks)] :: L) _ rfl ?_ ?_
                          · refine okL_split (!s24.2.2.1) (fun hb74 => ?_) (fun hb74 => ?_)
                            · refine okL_guard 112 (pAt g3 3) 111 (!s24.2.2.1) rfl rfl hb74 rfl rfl (does_fieldAddrP 3 Tryd.underlying46 rfl Tryd.sizeOf3 rfl rfl) ?_
                              refine okL_guard 113 (tI a1.Instr.C) 111 (!s24.2.2.1) rfl rfl hb74 rfl rfl (does_loadB1 Tryd.isAgg3 rfl 0 rfl rfl) ?_
                              refine okL_guard 114 (tB (a1.Instr.C != 0)) 111 (!s24.2.2.1) rfl rfl hb74 rfl rfl (does_neq rfl rfl) ?_
                              refine okL_guard 115 (tB (a1.Instr.C != 0)) 108 ((x59 || ((!s24.1) && (a1.Instr.A != 0))) || ((!s24.2.1) && (a1.Instr.B != 0))) rfl rfl hb73 rfl rfl (does_pick_t (!s24.2.2.1) rfl hb74 rfl) ?_
                              refine okL_nil ?_
                              exact okX_meet (I := _) (a1.Instr.C != 0) (and_t hb74) (cc rfl (cc rfl (cc rfl (cc rfl (cc rfl cn))))) rfl
                            · refine okL_skip 112 111 (!s24.2.2.1) rfl rfl hb74 rfl rfl ?_
                              refine okL_skip 113 111 (!s24.2.2.1) rfl rfl hb74 rfl rfl ?_
                              refine okL_skip 114 111 (!s24.2.2.1) rfl rfl hb74 rfl rfl ?_
                              refine okL_guard 115 (tB false) 108 ((x59 || ((!s24.1) && (a1.Instr.A != 0))) || ((!s24.2.1) && (a1.Instr.B != 0))) rfl rfl hb73 rfl rfl (does_pick_f (!s24.2.2.1) rfl hb74 rfl) ?_
                              refine okL_nil ?_
                              exact okX_meet (I := _) false (and_f hb74) (cc rfl (cc rfl (cc rfl (cc rfl (cc rfl cn))))) rfl
                          · intro x75 hx
                            subst hx
                            change OkL _ _ _ _ [(2, (pAt g1 0)), (5, (pAt g3 0)), (12, (tB s24.2.2.2)), (108, (tB ((x59 || ((!s24.1) && (a1.Instr.A != 0))) || ((!s24.2.1) && (a1.Instr.B != 0))))), (115, (tB ((!s24.2.2.1) && (a1.Instr.C != 0))))] (Item.blk g3 46 [(tI a1.Instr.Op), (tI a1.Instr.A), (tI a1.Instr.B), (tI a1.Instr.C), (tI a1.Instr.N)] :: Item.blk g2 48 [(tI a1.Instr.Op), (tI a1.Instr.A), (tI a1.Instr.B), (tI a1.Instr.C), (tI a1.Instr.N), (tL 1 lI a1.Args)] :: Item.blk g1 27 [(tI a0.Params), (tI a0.Regs), (tL 5 Block.ty a0.Blocks)] :: L)
                            refine okL_step 116 (tB ((!s24.2.2.1) && (a1.Instr.C != 0))) rfl rfl (does_pick_f ((x59 || ((!s24.1) && (a1.Instr.A != 0))) || ((!s24.2.1) && (a1.Instr.B != 0))) rfl hb73 rfl) ?_
                            refine okL_nil ?_
                            exact okX_meet (I := _) ((!s24.2.2.1) && (a1.Instr.C != 0)) (or_f hb73) (cc rfl (cc rfl (cc rfl (cc rfl cn)))) rfl
                      · intro x99 hx
                        subst hx
                        change OkL _ _ _ _ [(2, (pAt g1 0)), (5, (pAt g3 0)), (12, (tB s24.2.2.2)), (116, (tB (((x59 || ((!s24.1) && (a1.Instr.A != 0))) || ((!s24.2.1) && (a1.Instr.B != 0))) || ((!s24.2.2.1) && (a1.Instr.C != 0)))))] (Item.blk g3 46 [(tI a1.Instr.Op), (tI a1.Instr.A), (tI a1.Instr.B), (tI a1.Instr.C), (tI a1.Instr.N)] :: Item.blk g2 48 [(tI a1.Instr.Op), (tI a1.Instr.A), (tI a1.Instr.B), (tI a1.Instr.C), (tI a1.Instr.N), (tL 1 lI a1.Args)] :: Item.blk g1 27 [(tI a0.Params), (tI a0.Regs), (tL 5 Block.ty a0.Blocks)] :: L)
                        refine okL_step 117 (tB (((x59 || ((!s24.1) && (a1.Instr.A != 0))) || ((!s24.2.1) && (a1.Instr.B != 0))) || ((!s24.2.2.1) && (a1.Instr.C != 0)))) rfl rfl (does_move rfl) ?_
                        refine okL_meet (X := Bool) 8 (fun x => x = ((((x59 || ((!s24.1) && (a1.Instr.A != 0))) || ((!s24.2.1) && (a1.Instr.B != 0))) || ((!s24.2.2.1) && (a1.Instr.C != 0))) || ((!s24.2.2.2) && (a1.Instr.N != 0)))) (fun x : Bool => [(2, (pAt g1 0)), (5, (pAt g3 0)), (125, (tB x))]) (fun x : Bool => Item.blk g3 46 [(tI a1.Instr.Op), (tI a1.Instr.A), (tI a1.Instr.B), (tI a1.Instr.C), (tI a1.Instr.N)] :: Item.blk g2 48 [(tI a1.Instr.Op), (tI a1.Instr.A), (tI a1.Instr.B), (tI a1.Instr.C), (tI a1.Instr.N), (tL 1 lI a1.Args)] :: Item.blk g1 27 [(tI a0.Params), (tI a0.Regs), (tL 5 Block.ty a0.Blocks)] :: L) _ rfl ?_ ?_
                        · refine okL_split (((x59 || ((!s24.1) && (a1.Instr.A != 0))) || ((!s24.2.1) && (a1.Instr.B != 0))) || ((!s24.2.2.1) && (a1.Instr.C != 0))) (fun hb76 => ?_) (fun hb76 => ?_)
                          · refine okL_skip 118 117 (((x59 || ((!s24.1) && (a1.Instr.A != 0))) || ((!s24.2.1) && (a1.Instr.B != 0))) || ((!s24.2.2.1) && (a1.Instr.C != 0))) rfl rfl hb76 rfl rfl ?_
                            refine okL_skip 119 117 (((x59 || ((!s24.1) && (a1.Instr.A != 0))) || ((!s24.2.1) && (a1.Instr.B != 0))) || ((!s24.2.2.1) && (a1.Instr.C != 0))) rfl rfl hb76 rfl rfl ?_
                            refine okL_skip 120 117 (((x59 || ((!s24.1) && (a1.Instr.A != 0))) || ((!s24.2.1) && (a1.Instr.B != 0))) || ((!s24.2.2.1) && (a1.Instr.C != 0))) rfl rfl hb76 rfl rfl ?_
                            refine okL_skipU 121 120 rfl rfl rfl rfl ?_
                            refine okL_skipU 122 120 rfl rfl rfl rfl ?_
                            refine okL_skipU 123 120 rfl rfl rfl rfl ?_
                            refine okL_skip 124 117 (((x59 || ((!s24.1) && (a1.Instr.A != 0))) || ((!s24.2.1) && (a1.Instr.B != 0))) || ((!s24.2.2.1) && (a1.Instr.C != 0))) rfl rfl hb76 rfl rfl ?_
                            refine okL_step 125 (tB true) rfl rfl (does_pick_t (((x59 || ((!s24.1) && (a1.Instr.A != 0))) || ((!s24.2.1) && (a1.Instr.B != 0))) || ((!s24.2.2.1) && (a1.Instr.C != 0))) rfl hb76 rfl) ?_
                            refine okL_nil ?_
                            exact okX_meet (I := _) true (or_t hb76) (cc rfl (cc rfl (cc rfl cn))) rfl
                          · refine okL_guard 118 (tB s24.2.2.2) 117 (((x59 || ((!s24.1) && (a1.Instr.A != 0))) || ((!s24.2.1) && (a1.Instr.B != 0))) || ((!s24.2.2.1) && (a1.Instr.C != 0))) rfl rfl hb76 rfl rfl (does_move rfl) ?_
                            refine okL_guard 119 (tB (!s24.2.2.2)) 117 (((x59 || ((!s24.1) && (a1.Instr.A != 0))) || ((!s24.2.1) && (a1.Instr.B != 0))) || ((!s24.2.2.1) && (a1.Instr.C != 0))) rfl rfl hb76 rfl rfl (does_not rfl) ?_
                            refine okL_guard 120 (tB (!s24.2.2.2)) 117 (((x59 || ((!s24.1) && (a1.Instr.A != 0))) || ((!s24.2.1) && (a1.Instr.B != 0))) || ((!s24.2.2.1) && (a1.Instr.C != 0))) rfl rfl hb76 rfl rfl (does_move rfl) ?_
                            refine okL_meet (X := Bool) 4 (fun x => x = ((!s24.2.2.2) && (a1.Instr.N != 0))) (fun x : Bool => [(2, (pAt g1 0)), (5, (pAt g3 0)), (117, (tB (((x59 || ((!s24.1) && (a1.Instr.A != 0))) || ((!s24.2.1) && (a1.Instr.B != 0))) || ((!s24.2.2.1) && (a1.Instr.C != 0))))), (124, (tB x))]) (fun x : Bool => Item.blk g3 46 [(tI a1.Instr.Op), (tI a1.Instr.A), (tI a1.Instr.B), (tI a1.Instr.C), (tI a1.Instr.N)] :: Item.blk g2 48 [(tI a1.Instr.Op), (tI a1.Instr.A), (tI a1.Instr.B), (tI a1.Instr.C), (tI a1.Instr.N), (tL 1 lI a1.Args)] :: Item.blk g1 27 [(tI a0.Params), (tI a0.Regs), (tL 5 Block.ty a0.Blocks)] :: L) _ rfl ?_ ?_
                            · refine okL_split (!s24.2.2.2) (fun hb77 => ?_) (fun hb77 => ?_)
                              · refine okL_guard 121 (pAt g3 4) 120 (!s24.2.2.2) rfl rfl hb77 rfl rfl (does_fieldAddrP 4 Tryd.underlying46 rfl Tryd.sizeOf2 rfl rfl) ?_
                                refine okL_guard 122 (tI a1.Instr.N) 120 (!s24.2.2.2) rfl rfl hb77 rfl rfl (does_loadB1 Tryd.isAgg2 rfl 0 rfl rfl) ?_
                                refine okL_guard 123 (tB (a1.Instr.N != 0)) 120 (!s24.2.2.2) rfl rfl hb77 rfl rfl (does_neq rfl rfl) ?_
                                refine okL_guard 124 (tB (a1.Instr.N != 0)) 117 (((x59 || ((!s24.1) && (a1.Instr.A != 0))) || ((!s24.2.1) && (a1.Instr.B != 0))) || ((!s24.2.2.1) && (a1.Instr.C != 0))) rfl rfl hb76 rfl rfl (does_pick_t (!s24.2.2.2) rfl hb77 rfl) ?_
                                refine okL_nil ?_
                                exact okX_meet (I := _) (a1.Instr.N != 0) (and_t hb77) (cc rfl (cc rfl (cc rfl (cc rfl cn)))) rfl
                              · refine okL_skip 121 120 (!s24.2.2.2) rfl rfl hb77 rfl rfl ?_
                                refine okL_skip 122 120 (!s24.2.2.2) rfl rfl hb77 rfl rfl ?_
                                refine okL_skip 123 120 (!s24.2.2.2) rfl rfl hb77 rfl rfl ?_
                                refine okL_guard 124 (tB false) 117 (((x59 || ((!s24.1) && (a1.Instr.A != 0))) || ((!s24.2.1) && (a1.Instr.B != 0))) || ((!s24.2.2.1) && (a1.Instr.C != 0))) rfl rfl hb76 rfl rfl (does_pick_f (!s24.2.2.2) rfl hb77 rfl) ?_
                                refine okL_nil ?_
                                exact okX_meet (I := _) false (and_f hb77) (cc rfl (cc rfl (cc rfl (cc rfl cn)))) rfl
                            · intro x78 hx
                              subst hx
                              change OkL _ _ _ _ [(2, (pAt g1 0)), (5, (pAt g3 0)), (117, (tB (((x59 || ((!s24.1) && (a1.Instr.A != 0))) || ((!s24.2.1) && (a1.Instr.B != 0))) || ((!s24.2.2.1) && (a1.Instr.C != 0))))), (124, (tB ((!s24.2.2.2) && (a1.Instr.N != 0))))] (Item.blk g3 46 [(tI a1.Instr.Op), (tI a1.Instr.A), (tI a1.Instr.B), (tI a1.Instr.C), (tI a1.Instr.N)] :: Item.blk g2 48 [(tI a1.Instr.Op), (tI a1.Instr.A), (tI a1.Instr.B), (tI a1.Instr.C), (tI a1.Instr.N), (tL 1 lI a1.Args)] :: Item.blk g1 27 [(tI a0.Params), (tI a0.Regs), (tL 5 Block.ty a0.Blocks)] :: L)
                              refine okL_step 125 (tB ((!s24.2.2.2) && (a1.Instr.N != 0))) rfl rfl (does_pick_f (((x59 || ((!s24.1) && (a1.Instr.A != 0))) || ((!s24.2.1) && (a1.Instr.B != 0))) || ((!s24.2.2.1) && (a1.Instr.C != 0))) rfl hb76 rfl) ?_
                              refine okL_nil ?_
                              exact okX_meet (I := _) ((!s24.2.2.2) && (a1.Instr.N != 0)) (or_f hb76) (cc rfl (cc rfl (cc rfl cn))) rfl
                        · intro x98 hx
                          subst hx
                          change OkL _ _ _ _ [(2, (pAt g1 0)), (5, (pAt g3 0)), (125, (tB ((((x59 || ((!s24.1) && (a1.Instr.A != 0))) || ((!s24.2.1) && (a1.Instr.B != 0))) || ((!s24.2.2.1) && (a1.Instr.C != 0))) || ((!s24.2.2.2) && (a1.Instr.N != 0)))))] (Item.blk g3 46 [(tI a1.Instr.Op), (tI a1.Instr.A), (tI a1.Instr.B), (tI a1.Instr.C), (tI a1.Instr.N)] :: Item.blk g2 48 [(tI a1.Instr.Op), (tI a1.Instr.A), (tI a1.Instr.B), (tI a1.Instr.C), (tI a1.Instr.N), (tL 1 lI a1.Args)] :: Item.blk g1 27 [(tI a0.Params), (tI a0.Regs), (tL 5 Block.ty a0.Blocks)] :: L)
                          refine okL_nil ?_
                          refine okX_next ?_
                          refine okC_cond (b := ((((x59 || ((!s24.1) && (a1.Instr.A != 0))) || ((!s24.2.1) && (a1.Instr.B != 0))) || ((!s24.2.2.1) && (a1.Instr.C != 0))) || ((!s24.2.2.2) && (a1.Instr.N != 0)))) rfl (fun hb79 => ?_) (fun hb79 => ?_)
                          · replace h := ct hb79 h
                            refine okC_seq ?_
                            refine okC_region ?_
                            refine okL_step 4 (tB false) rfl rfl (does_assign rfl) ?_
                            refine okL_nil ?_
                            refine okX_next ?_
                            refine okC_ret ?_
                            refine okX_then_ret ?_
                            obtain rfl := (smh h).symm
                            refine okX_items [Item.blk g3 46 [(tI a1.Instr.Op), (tI a1.Instr.A), (tI a1.Instr.B), (tI a1.Instr.C), (tI a1.Instr.N)], Item.blk g2 48 [(tI a1.Instr.Op), (tI a1.Instr.A), (tI a1.Instr.B), (tI a1.Instr.C), (tI a1.Instr.N), (tL 1 lI a1.Args)], Item.blk g1 27 [(tI a0.Params), (tI a0.Regs), (tL 5 Block.ty a0.Blocks)]] (L) (pm 0 rfl (pm 0 rfl (pm 0 rfl (pr _)))) ?_
                            exact okX_ret1 () Tryd.results103 rfl rfl
                          · replace h := cf hb79 h
                            refine okC_skip ?_
                            refine okX_next ?_
                            refine okC_seq ?_
                            refine okC_seq ?_
                            refine okC_region ?_
                            refine okL_step 126 (pAt g3 0) rfl rfl (does_fieldAddrP 0 Tryd.underlying46 rfl Tryd.sizeOf3 rfl rfl) ?_
                            refine okL_step 127 (tI a1.Instr.Op) rfl rfl (does_loadB1 Tryd.isAgg3 rfl 0 rfl rfl) ?_
                            refine okL_nil ?_
                            refine okX_next ?_
                            refine okC_block ?_
                            refine okC_seq ?_
                            refine okC_region ?_
                            refine okL_step 129 (tB (a1.Instr.Op == 33)) rfl rfl (does_eql rfl rfl) ?_
                            refine okL_step 128 (tB (a1.Instr.Op == 33)) rfl rfl (does_assign rfl) ?_
                            refine okL_nil ?_
                            refine okX_next ?_
                            refine okC_cond (b := (a1.Instr.Op == 33)) rfl (fun hb80 => ?_) (fun hb80 => ?_)
                            · replace h := ct hb80 h
                              refine okC_seq ?_
                              refine okC_region ?_
                              refine okL_step 130 (pAt g3 4) rfl rfl (does_fieldAddrP 4 Tryd.underlying46 rfl Tryd.sizeOf2 rfl rfl) ?_
                              refine okL_step 131 (tI a1.Instr.N) rfl rfl (does_loadB1 Tryd.isAgg2 rfl 0 rfl rfl) ?_
                              refine okL_step 132 (tB (decide (a1.Instr.N ≥ (-4194304)))) rfl rfl (does_geq rfl rfl) ?_
                              refine okL_step 133 (tB (decide (a1.Instr.N ≥ (-4194304)))) rfl rfl (does_move rfl) ?_
                              refine okL_meet (X := Bool) 4 (fun x => x = ((decide (a1.Instr.N ≥ (-4194304))) && (decide (a1.Instr.N < 4194304)))) (fun x : Bool => [(137, (tB x))]) (fun x : Bool => Item.blk g3 46 [(tI a1.Instr.Op), (tI a1.Instr.A), (tI a1.Instr.B), (tI a1.Instr.C), (tI a1.Instr.N)] :: Item.blk g2 48 [(tI a1.Instr.Op), (tI a1.Instr.A), (tI a1.Instr.B), (tI a1.Instr.C), (tI a1.Instr.N), (tL 1 lI a1.Args)] :: Item.blk g1 27 [(tI a0.Params), (tI a0.Regs), (tL 5 Block.ty a0.Blocks)] :: L) _ rfl ?_ ?_
                              · refine okL_split (decide (a1.Instr.N ≥ (-4194304))) (fun hb81 => ?_) (fun hb81 => ?_)
                                · refine okL_guard 134 (pAt g3 4) 133 (decide (a1.Instr.N ≥ (-4194304))) rfl rfl hb81 rfl rfl (does_fieldAddrP 4 Tryd.underlying46 rfl Tryd.sizeOf2 rfl rfl) ?_
                                  refine okL_guard 135 (tI a1.Instr.N) 133 (decide (a1.Instr.N ≥ (-4194304))) rfl rfl hb81 rfl rfl (does_loadB1 Tryd.isAgg2 rfl 0 rfl rfl) ?_
                                  refine okL_guard 136 (tB (decide (a1.Instr.N < 4194304))) 133 (decide (a1.Instr.N ≥ (-4194304))) rfl rfl hb81 rfl rfl (does_lss rfl rfl) ?_
                                  refine okL_step 137 (tB (decide (a1.Instr.N < 4194304))) rfl rfl (does_pick_t (decide (a1.Instr.N ≥ (-4194304))) rfl hb81 rfl) ?_
                                  refine okL_nil ?_
                                  exact okX_meet (I := _) (decide (a1.Instr.N < 4194304)) (and_t hb81) (cc rfl cn) rfl
                                · refine okL_skip 134 133 (decide (a1.Instr.N ≥ (-4194304))) rfl rfl hb81 rfl rfl ?_
                                  refine okL_skip 135 133 (decide (a1.Instr.N ≥ (-4194304))) rfl rfl hb81 rfl rfl ?_
                                  refine okL_skip 136 133 (decide (a1.Instr.N ≥ (-4194304))) rfl rfl hb81 rfl rfl ?_
                                  refine okL_step 137 (tB false) rfl rfl (does_pick_f (decide (a1.Instr.N ≥ (-4194304))) rfl hb81 rfl) ?_
                                  refine okL_nil ?_
                                  exact okX_meet (I := _) false (and_f hb81) (cc rfl cn) rfl
                              · intro x82 hx
                                subst hx
                                change OkL _ _ _ _ [(137, (tB ((decide (a1.Instr.N ≥ (-4194304))) && (decide (a1.Instr.N < 4194304)))))] (Item.blk g3 46 [(tI a1.Instr.Op), (tI a1.Instr.A), (tI a1.Instr.B), (tI a1.Instr.C), (tI a1.Instr.N)] :: Item.blk g2 48 [(tI a1.Instr.Op), (tI a1.Instr.A), (tI a1.Instr.B), (tI a1.Instr.C), (tI a1.Instr.N), (tL 1 lI a1.Args)] :: Item.blk g1 27 [(tI a0.Params), (tI a0.Regs), (tL 5 Block.ty a0.Blocks)] :: L)
                                refine okL_step 4 (tB ((decide (a1.Instr.N ≥ (-4194304))) && (decide (a1.Instr.N < 4194304)))) rfl rfl (does_assign rfl) ?_
                                refine okL_nil ?_
                                refine okX_next ?_
                                refine okC_ret ?_
                                refine okX_block_ret ?_
                                refine okX_then_ret ?_
                                obtain rfl := (smh h).symm
                                refine okX_items [Item.blk g3 46 [(tI a1.Instr.Op), (tI a1.Instr.A), (tI a1.Instr.B), (tI a1.Instr.C), (tI a1.Instr.N)], Item.blk g2 48 [(tI a1.Instr.Op), (tI a1.Instr.A), (tI a1.Instr.B), (tI a1.Instr.C), (tI a1.Instr.N), (tL 1 lI a1.Args)], Item.blk g1 27 [(tI a0.Params), (tI a0.Regs), (tL 5 Block.ty a0.Blocks)]] (L) (pm 0 rfl (pm 0 rfl (pm 0 rfl (pr _)))) ?_
                                exact okX_ret1 () Tryd.results103 rfl rfl
                            · replace h := cf hb80 h
                              refine okC_seq ?_
                              refine okC_region ?_
                              refine okL_step 139 (tB (a1.Instr.Op == 6)) rfl rfl (does_eql rfl rfl) ?_
                              refine okL_step 138 (tB (a1.Instr.Op == 6)) rfl rfl (does_assign rfl) ?_
                              refine okL_nil ?_
                              refine okX_next ?_
                              refine okC_cond (b := (a1.Instr.Op == 6)) rfl (fun hb83 => ?_) (fun hb83 => ?_)
                              · replace h := ct hb83 h
                                refine okC_seq ?_
                                refine okC_region ?_
                                refine okL_step 140 (pAt g3 4) rfl rfl (does_fieldAddrP 4 Tryd.underlying46 rfl Tryd.sizeOf2 rfl rfl) ?_
                                refine okL_step 141 (tI a1.Instr.N) rfl rfl (does_loadB1 Tryd.isAgg2 rfl 0 rfl rfl) ?_
                                refine okL_step 142 (tB (decide (a1.Instr.N ≥ 0))) rfl rfl (does_geq rfl rfl) ?_
                                refine okL_step 143 (tB (decide (a1.Instr.N ≥ 0))) rfl rfl (does_move rfl) ?_
                                refine okL_meet (X := Bool) 4 (fun x => x = ((decide (a1.Instr.N ≥ 0)) && (decide (a1.Instr.N < 8)))) (fun x : Bool => [(147, (tB x))]) (fun x : Bool => Item.blk g3 46 [(tI a1.Instr.Op), (tI a1.Instr.A), (tI a1.Instr.B), (tI a1.Instr.C), (tI a1.Instr.N)] :: Item.blk g2 48 [(tI a1.Instr.Op), (tI a1.Instr.A), (tI a1.Instr.B), (tI a1.Instr.C), (tI a1.Instr.N), (tL 1 lI a1.Args)] :: Item.blk g1 27 [(tI a0.Params), (tI a0.Regs), (tL 5 Block.ty a0.Blocks)] :: L) _ rfl ?_ ?_
                                · refine okL_split (decide (a1.Instr.N ≥ 0)) (fun hb84 => ?_) (fun hb84 => ?_)
                                  · refine okL_guard 144 (pAt g3 4) 143 (decide (a1.Instr.N ≥ 0)) rfl rfl hb84 rfl rfl (does_fieldAddrP 4 Tryd.underlying46 rfl Tryd.sizeOf2 rfl rfl) ?_
                                    refine okL_guard 145 (tI a1.Instr.N) 143 (decide (a1.Instr.N ≥ 0)) rfl rfl hb84 rfl rfl (does_loadB1 Tryd.isAgg2 rfl 0 rfl rfl) ?_
                                    refine okL_guard 146 (tB (decide (a1.Instr.N < 8))) 143 (decide (a1.Instr.N ≥ 0)) rfl rfl hb84 rfl rfl (does_lss rfl rfl) ?_
                                    refine okL_step 147 (tB (decide (a1.Instr.N < 8))) rfl rfl (does_pick_t (decide (a1.Instr.N ≥ 0)) rfl hb84 rfl) ?_
                                    refine okL_nil ?_
                                    exact okX_meet (I := _) (decide (a1.Instr.N < 8)) (and_t hb84) (cc rfl cn) rfl
                                  · refine okL_skip 144 143 (decide (a1.Instr.N ≥ 0)) rfl rfl hb84 rfl rfl ?_
                                    refine okL_skip 145 143 (decide (a1.Instr.N ≥ 0)) rfl rfl hb84 rfl rfl ?_
                                    refine okL_skip 146 143 (decide (a1.Instr.N ≥ 0)) rfl rfl hb84 rfl rfl ?_
                                    refine okL_step 147 (tB false) rfl rfl (does_pick_f (decide (a1.Instr.N ≥ 0)) rfl hb84 rfl) ?_
                                    refine okL_nil ?_
                                    exact okX_meet (I := _) false (and_f hb84) (cc rfl cn) rfl
                                · intro x85 hx
                                  subst hx
                                  change OkL _ _ _ _ [(147, (tB ((decide (a1.Instr.N ≥ 0)) && (decide (a1.Instr.N < 8)))))] (Item.blk g3 46 [(tI a1.Instr.Op), (tI a1.Instr.A), (tI a1.Instr.B), (tI a1.Instr.C), (tI a1.Instr.N)] :: Item.blk g2 48 [(tI a1.Instr.Op), (tI a1.Instr.A), (tI a1.Instr.B), (tI a1.Instr.C), (tI a1.Instr.N), (tL 1 lI a1.Args)] :: Item.blk g1 27 [(tI a0.Params), (tI a0.Regs), (tL 5 Block.ty a0.Blocks)] :: L)
                                  refine okL_step 4 (tB ((decide (a1.Instr.N ≥ 0)) && (decide (a1.Instr.N < 8)))) rfl rfl (does_assign rfl) ?_
                                  refine okL_nil ?_
                                  refine okX_next ?_
                                  refine okC_ret ?_
                                  refine okX_block_ret ?_
                                  refine okX_then_ret ?_
                                  obtain rfl := (smh h).symm
                                  refine okX_items [Item.blk g3 46 [(tI a1.Instr.Op), (tI a1.Instr.A), (tI a1.Instr.B), (tI a1.Instr.C), (tI a1.Instr.N)], Item.blk g2 48 [(tI a1.Instr.Op), (tI a1.Instr.A), (tI a1.Instr.B), (tI a1.Instr.C), (tI a1.Instr.N), (tL 1 lI a1.Args)], Item.blk g1 27 [(tI a0.Params), (tI a0.Regs), (tL 5 Block.ty a0.Blocks)]] (L) (pm 0 rfl (pm 0 rfl (pm 0 rfl (pr _)))) ?_
                                  exact okX_ret1 () Tryd.results103 rfl rfl
                              · replace h := cf hb83 h
                                obtain ⟨z88, h90, hz89⟩ := bs h
                                refine okC_meet (X := Bool) (fun x => z88 = x) (fun x : Bool => [(2, (pAt g1 0)), (5, (pAt g3 0)), (127, (tI a1.Instr.Op)), (148, (tB x))]) (fun x : Bool => Item.blk g3 46 [(tI a1.Instr.Op), (tI a1.Instr.A), (tI a1.Instr.B), (tI a1.Instr.C), (tI a1.Instr.N)] :: Item.blk g2 48 [(tI a1.Instr.Op), (tI a1.Instr.A), (tI a1.Instr.B), (tI a1.Instr.C), (tI a1.Instr.N), (tL 1 lI a1.Args)] :: Item.blk g1 27 [(tI a0.Params), (tI a0.Regs), (tL 5 Block.ty a0.Blocks)] :: L) ?_ ?_
                                · refine okC_seq ?_
                                  refine okC_region ?_
                                  refine okL_step 149 (tB (a1.Instr.Op == 34)) rfl rfl (does_eql rfl rfl) ?_
                                  refine okL_step 148 (tB (a1.Instr.Op == 34)) rfl rfl (does_assign rfl) ?_
                                  refine okL_nil ?_
                                  refine okX_next ?_
                                  refine okC_cond (b := (a1.Instr.Op == 34)) rfl (fun hb91 => ?_) (fun hb91 => ?_)
                                  · replace h90 := ct hb91 h90
                                    refine okC_skip ?_
                                    exact okX_meet (I := _) (a1.Instr.Op == 34) (smh h90) (cc rfl (cc rfl (cc rfl (cc rfl cn)))) rfl
                                  · replace h90 := cf hb91 h90
                                    refine okC_region ?_
                                    refine okL_step 150 (tB (a1.Instr.Op == 35)) rfl rfl (does_eql rfl rfl) ?_
                                    refine okL_step 148 (tB (a1.Instr.Op == 35)) rfl rfl (does_assign rfl) ?_
                                    refine okL_nil ?_
                                    exact okX_meet (I := _) (a1.Instr.Op == 35) (smh h90) (cc rfl (cc rfl (cc rfl (cc rfl cn)))) rfl
                                · intro s86 hx
                                  change OkC _ _ _ [(2, (pAt g1 0)), (5, (pAt g3 0)), (127, (tI a1.Instr.Op)), (148, (tB s86))] (Item.blk g3 46 [(tI a1.Instr.Op), (tI a1.Instr.A), (tI a1.Instr.B), (tI a1.Instr.C), (tI a1.Instr.N)] :: Item.blk g2 48 [(tI a1.Instr.Op), (tI a1.Instr.A), (tI a1.Instr.B), (tI a1.Instr.C), (tI a1.Instr.N), (tL 1 lI a1.Args)] :: Item.blk g1 27 [(tI a0.Params), (tI a0.Regs), (tL 5 Block.ty a0.Blocks)] :: L)
                                  obtain rfl : s86 = z88 := hx.symm
                                  replace h := hz89
                                  refine okC_cond (b := s86) rfl (fun hb92 => ?_) (fun hb92 => ?_)
                                  · replace h := ct hb92 h
                                    refine okC_seq ?_
                                    refine okC_region ?_
                                    refine okL_step 151 (pAt g3 4) rfl rfl (does_fieldAddrP 4 Tryd.underlying46 rfl Tryd.sizeOf2 rfl rfl) ?_
                                    refine okL_step 152 (tI a1.Instr.N) rfl rfl (does_loadB1 Tryd.isAgg2 rfl 0 rfl rfl) ?_
                                    refine okL_step 153 (tB (decide (a1.Instr.N ≥ 0))) rfl rfl (does_geq rfl rfl) ?_
                                    refine okL_step 154 (tB (decide (a1.Instr.N ≥ 0))) rfl rfl (does_move rfl) ?_
                                    refine okL_meet (X := Bool) 4 (fun x => x = ((decide (a1.Instr.N ≥ 0)) && (decide (a1.Instr.N < 4)))) (fun x : Bool => [(158, (tB x))]) (fun x : Bool => Item.blk g3 46 [(tI a1.Instr.Op), (tI a1.Instr.A), (tI a1.Instr.B), (tI a1.Instr.C), (tI a1.Instr.N)] :: Item.blk g2 48 [(tI a1.Instr.Op), (tI a1.Instr.A), (tI a1.Instr.B), (tI a1.Instr.C), (tI a1.Instr.N), (tL 1 lI a1.Args)] :: Item.blk g1 27 [(tI a0.Params), (tI a0.Regs), (tL 5 Block.ty a0.Blocks)] :: L) _ rfl ?_ ?_
                                    · refine okL_split (decide (a1.Instr.N ≥ 0)) (fun hb93 => ?_) (fun hb93 => ?_)
                                      · refine okL_guard 155 (pAt g3 4) 154 (decide (a1.Instr.N ≥ 0)) rfl rfl hb93 rfl rfl (does_fieldAddrP 4 Tryd.underlying46 rfl Tryd.sizeOf2 rfl rfl) ?_
                                        refine okL_guard 156 (tI a1.Instr.N) 154 (decide (a1.Instr.N ≥ 0)) rfl rfl hb93 rfl rfl (does_loadB1 Tryd.isAgg2 rfl 0 rfl rfl) ?_
                                        refine okL_guard 157 (tB (decide (a1.Instr.N < 4))) 154 (decide (a1.Instr.N ≥ 0)) rfl rfl hb93 rfl rfl (does_lss rfl rfl) ?_
                                        refine okL_step 158 (tB (decide (a1.Instr.N < 4))) rfl rfl (does_pick_t (decide (a1.Instr.N ≥ 0)) rfl hb93 rfl) ?_
                                        refine okL_nil ?_
                                        exact okX_meet (I := _) (decide (a1.Instr.N < 4)) (and_t hb93) (cc rfl cn) rfl
                                      · refine okL_skip 155 154 (decide (a1.Instr.N ≥ 0)) rfl rfl hb93 rfl rfl ?_
                                        refine okL_skip 156 154 (decide (a1.Instr.N ≥ 0)) rfl rfl hb93 rfl rfl ?_
                                        refine okL_skip 157 154 (decide (a1.Instr.N ≥ 0)) rfl rfl hb93 rfl rfl ?_
                                        refine okL_step 158 (tB false) rfl rfl (does_pick_f (decide (a1.Instr.N ≥ 0)) rfl hb93 rfl) ?_
                                        refine okL_nil ?_
                                        exact okX_meet (I := _) false (and_f hb93) (cc rfl cn) rfl
                                    · intro x94 hx
                                      subst hx
                                      change OkL _ _ _ _ [(158, (tB ((decide (a1.Instr.N ≥ 0)) && (decide (a1.Instr.N < 4)))))] (Item.blk g3 46 [(tI a1.Instr.Op), (tI a1.Instr.A), (tI a1.Instr.B), (tI a1.Instr.C), (tI a1.Instr.N)] :: Item.blk g2 48 [(tI a1.Instr.Op), (tI a1.Instr.A), (tI a1.Instr.B), (tI a1.Instr.C), (tI a1.Instr.N), (tL 1 lI a1.Args)] :: Item.blk g1 27 [(tI a0.Params), (tI a0.Regs), (tL 5 Block.ty a0.Blocks)] :: L)
                                      refine okL_step 4 (tB ((decide (a1.Instr.N ≥ 0)) && (decide (a1.Instr.N < 4)))) rfl rfl (does_assign rfl) ?_
                                      refine okL_nil ?_
                                      refine okX_next ?_
                                      refine okC_ret ?_
                                      refine okX_block_ret ?_
                                      refine okX_then_ret ?_
                                      obtain rfl := (smh h).symm
                                      refine okX_items [Item.blk g3 46 [(tI a1.Instr.Op), (tI a1.Instr.A), (tI a1.Instr.B), (tI a1.Instr.C), (tI a1.Instr.N)], Item.blk g2 48 [(tI a1.Instr.Op), (tI a1.Instr.A), (tI a1.Instr.B), (tI a1.Instr.C), (tI a1.Instr.N), (tL 1 lI a1.Args)], Item.blk g1 27 [(tI a0.Params), (tI a0.Regs), (tL 5 Block.ty a0.Blocks)]] (L) (pm 0 rfl (pm 0 rfl (pm 0 rfl (pr _)))) ?_
                                      exact okX_ret1 () Tryd.results103 rfl rfl
                                  · replace h := cf hb92 h
                                    refine okC_seq ?_
                                    refine okC_region ?_
                                    refine okL_step 160 (tB (a1.Instr.Op == 38)) rfl rfl (does_eql rfl rfl) ?_
                                    refine okL_step 159 (tB (a1.Instr.Op == 38)) rfl rfl (does_assign rfl) ?_
                                    refine okL_nil ?_
                                    refine okX_next ?_
                                    refine okC_cond (b := (a1.Instr.Op == 38)) rfl (fun hb95 => ?_) (fun hb95 => ?_)
                                    · replace h := ct hb95 h
                                      refine okC_seq ?_
                                      refine okC_region ?_
                                      refine okL_step 161 (pAt g3 4) rfl rfl (does_fieldAddrP 4 Tryd.underlying46 rfl Tryd.sizeOf2 rfl rfl) ?_
                                      refine okL_step 162 (tI a1.Instr.N) rfl rfl (does_loadB1 Tryd.isAgg2 rfl 0 rfl rfl) ?_
                                      refine okL_step 163 (tB (decide (a1.Instr.N ≥ 0))) rfl rfl (does_geq rfl rfl) ?_
                                      refine okL_step 164 (tB (decide (a1.Instr.N ≥ 0))) rfl rfl (does_move rfl) ?_
                                      refine okL_meet (X := Bool) 6 (fun x => x = ((decide (a1.Instr.N ≥ 0)) && (decide (a1.Instr.N < a0.Params)))) (fun x : Bool => [(170, (tB x))]) (fun x : Bool => Item.blk g3 46 [(tI a1.Instr.Op), (tI a1.Instr.A), (tI a1.Instr.B), (tI a1.Instr.C), (tI a1.Instr.N)] :: Item.blk g2 48 [(tI a1.Instr.Op), (tI a1.Instr.A), (tI a1.Instr.B), (tI a1.Instr.C), (tI a1.Instr.N), (tL 1 lI a1.Args)] :: Item.blk g1 27 [(tI a0.Params), (tI a0.Regs), (tL 5 Block.ty a0.Blocks)] :: L) _ rfl ?_ ?_
                                      · refine okL_split (decide (a1.Instr.N ≥ 0)) (fun hb96 => ?_) (fun hb96 => ?_)
                                        · refine okL_guard 165 (pAt g3 4) 164 (decide (a1.Instr.N ≥ 0)) rfl rfl hb96 rfl rfl (does_fieldAddrP 4 Tryd.underlying46 rfl Tryd.sizeOf2 rfl rfl) ?_
                                          refine okL_guard 166 (tI a1.Instr.N) 164 (decide (a1.Instr.N ≥ 0)) rfl rfl hb96 rfl rfl (does_loadB1 Tryd.isAgg2 rfl 0 rfl rfl) ?_
                                          refine okL_guard 167 (pAt g1 0) 164 (decide (a1.Instr.N ≥ 0)) rfl rfl hb96 rfl rfl (does_fieldAddrP 0 Tryd.underlying27 rfl Tryd.sizeOf3 rfl rfl) ?_
                                          refine okL_guard 168 (tI a0.Params) 164 (decide (a1.Instr.N ≥ 0)) rfl rfl hb96 rfl rfl (does_loadB1 Tryd.isAgg3 rfl 2 rfl rfl) ?_
                                          refine okL_guard 169 (tB (decide (a1.Instr.N < a0.Params))) 164 (decide (a1.Instr.N ≥ 0)) rfl rfl hb96 rfl rfl (does_lss rfl rfl) ?_
                                          refine okL_step 170 (tB (decide (a1.Instr.N < a0.Params))) rfl rfl (does_pick_t (decide (a1.Instr.N ≥ 0)) rfl hb96 rfl) ?_
                                          refine okL_nil ?_
                                          exact okX_meet (I := _) (decide (a1.Instr.N < a0.Params)) (and_t hb96) (cc rfl cn) rfl
                                        · refine okL_skip 165 164 (decide (a1.Instr.N ≥ 0)) rfl rfl hb96 rfl rfl ?_
                                          refine okL_skip 166 164 (decide (a1.Instr.N ≥ 0)) rfl rfl hb96 rfl rfl ?_
                                          refine okL_skip 167 164 (decide (a1.Instr.N ≥ 0)) rfl rfl hb96 rfl rfl ?_
                                          refine okL_skip 168 164 (decide (a1.Instr.N ≥ 0)) rfl rfl hb96 rfl rfl ?_
                                          refine okL_skip 169 164 (decide (a1.Instr.N ≥ 0)) rfl rfl hb96 rfl rfl ?_
                                          refine okL_step 170 (tB false) rfl rfl (does_pick_f (decide (a1.Instr.N ≥ 0)) rfl hb96 rfl) ?_
                                          refine okL_nil ?_
                                          exact okX_meet (I := _) false (and_f hb96) (cc rfl cn) rfl
                                      · intro x97 hx
                                        subst hx
                                        change OkL _ _ _ _ [(170, (tB ((decide (a1.Instr.N ≥ 0)) && (decide (a1.Instr.N < a0.Params)))))] (Item.blk g3 46 [(tI a1.Instr.Op), (tI a1.Instr.A), (tI a1.Instr.B), (tI a1.Instr.C), (tI a1.Instr.N)] :: Item.blk g2 48 [(tI a1.Instr.Op), (tI a1.Instr.A), (tI a1.Instr.B), (tI a1.Instr.C), (tI a1.Instr.N), (tL 1 lI a1.Args)] :: Item.blk g1 27 [(tI a0.Params), (tI a0.Regs), (tL 5 Block.ty a0.Blocks)] :: L)
                                        refine okL_step 4 (tB ((decide (a1.Instr.N ≥ 0)) && (decide (a1.Instr.N < a0.Params)))) rfl rfl (does_assign rfl) ?_
                                        refine okL_nil ?_
                                        refine okX_next ?_
                                        refine okC_ret ?_
                                        refine okX_block_ret ?_
                                        refine okX_then_ret ?_
                                        obtain rfl := (smh h).symm
                                        refine okX_items [Item.blk g3 46 [(tI a1.Instr.Op), (tI a1.Instr.A), (tI a1.Instr.B), (tI a1.Instr.C), (tI a1.Instr.N)], Item.blk g2 48 [(tI a1.Instr.Op), (tI a1.Instr.A), (tI a1.Instr.B), (tI a1.Instr.C), (tI a1.Instr.N), (tL 1 lI a1.Args)], Item.blk g1 27 [(tI a0.Params), (tI a0.Regs), (tL 5 Block.ty a0.Blocks)]] (L) (pm 0 rfl (pm 0 rfl (pm 0 rfl (pr _)))) ?_
                                        exact okX_ret1 () Tryd.results103 rfl rfl
                                    · replace h := cf hb95 h
                                      refine okC_skip ?_
                                      refine okX_block_normal ?_
                                      refine okX_next ?_
                                      refine okC_seq ?_
                                      refine okC_region ?_
                                      refine okL_step 4 (tB true) rfl rfl (does_assign rfl) ?_
                                      refine okL_nil ?_
                                      refine okX_next ?_
                                      refine okC_ret ?_
                                      obtain rfl := (smh h).symm
                                      refine okX_items [Item.blk g3 46 [(tI a1.Instr.Op), (tI a1.Instr.A), (tI a1.Instr.B), (tI a1.Instr.C), (tI a1.Instr.N)], Item.blk g2 48 [(tI a1.Instr.Op), (tI a1.Instr.A), (tI a1.Instr.B), (tI a1.Instr.C), (tI a1.Instr.N), (tL 1 lI a1.Args)], Item.blk g1 27 [(tI a0.Params), (tI a0.Regs), (tL 5 Block.ty a0.Blocks)]] (L) (pm 0 rfl (pm 0 rfl (pm 0 rfl (pr _)))) ?_
                                      exact okX_ret1 () Tryd.results103 rfl rfl

end Go.Proofs.YtocfnpnnbmicmaaDoor.Tc
