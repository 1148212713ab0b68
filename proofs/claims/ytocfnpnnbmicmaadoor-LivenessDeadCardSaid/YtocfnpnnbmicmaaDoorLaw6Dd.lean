/- LivenessDead: the row and the card. WHATEVER THE INPUT: the law answers true, and each argument reads behind the call as it read before. -/
import Derived.Test.YtocfnpnnbmicmaaDoorCards
import Derived.Test.YtocfnpnnbmicmaaDoorTie
import Derived.ProofKit
import Derived.LaidMore
import Derived.Deep.DeepHandedRow
import Derived.Deep.DeepWitnessRowRef
import Derived.Test.YtocfnpnnbmicmaaDoorZDd5
set_option maxRecDepth 100000
set_option linter.unusedVariables false
namespace Go.Proofs.YtocfnpnnbmicmaaDoor.LivenessDead
open Go Go.ChangeShapes Go.WideShapes Go.ChangeAt Go.RowKit Tc

theorem contract (H : Type) (enc : TypeId × Value → H) (W : World) (base : Nat) (args : Array Value) (ds gs : List (DataW H)) (before : List MemPlace)
    (hval : ∀ (j : Nat) t v, Tryd.f6.params[j]? = some t → args[j]? = some v → Value.okWide Tryd.prog W .any base t v) (hW : DataW.Whole enc Tryd.prog Tryd.f6.params.toList Rows.livenessDeadSpec.vars false W args.toList ds gs before)
    (hz : (DataW.weightsEach Tryd.prog (Tryd.f6.params.toList ++ (OpenSpec.ofChange Rows.livenessDeadSpec).bare.plain.varTypes Tryd.prog) (ds ++ gs)).all (· ≤ reachBytes) = true) (hL : laidMetH Tryd.prog Rows.livenessDeadRow.laid W) :
    Calls Tryd.prog 6 args W fun e W' => ∃ v, e = .returned v ∧ Rows.livenessDeadSpec.post enc Tryd.prog Tryd.f6 false true false false W args v W' := by
  have hW' := hW
  obtain ⟨p, q, hA0, hV, rfl, hfz, hnd⟩ := hW
  have hA : DataW.TrodAll enc Tryd.prog W 0 (fun _ => true) true Tryd.f6.params.toList args.toList ds p := hA0
  rw [Tryd.params6] at hA
  obtain ⟨v0, vs0, d0, ds0, p0, q0, hv0, rfl, rfl, t0, hA0⟩ := trodAll_cons hA
  obtain ⟨v1, vs1, d1, ds1, p1, q1, hv1, rfl, rfl, t1, hA1⟩ := trodAll_cons hA0
  obtain ⟨v2, vs2, d2, ds2, p2, q2, hv2, rfl, rfl, t2, hA2⟩ := trodAll_cons hA1
  obtain ⟨v3, vs3, d3, ds3, p3, q3, hv3, rfl, rfl, t3, hA3⟩ := trodAll_cons hA2
  obtain ⟨v4, vs4, d4, ds4, p4, q4, hv4, rfl, rfl, t4, hA4⟩ := trodAll_cons hA3
  obtain ⟨v5, vs5, d5, ds5, p5, q5, hv5, rfl, rfl, t5, hA5⟩ := trodAll_cons hA4
  obtain ⟨v6, vs6, d6, ds6, p6, q6, hv6, rfl, rfl, t6, hA6⟩ := trodAll_cons hA5
  obtain ⟨v7, vs7, d7, ds7, p7, q7, hv7, rfl, rfl, t7, hA7⟩ := trodAll_cons hA6
  obtain ⟨v8, vs8, d8, ds8, p8, q8, hv8, rfl, rfl, t8, hA8⟩ := trodAll_cons hA7
  obtain ⟨v9, vs9, d9, ds9, p9, q9, hv9, rfl, rfl, t9, hA9⟩ := trodAll_cons hA8
  obtain ⟨v10, vs10, d10, ds10, p10, q10, hv10, rfl, rfl, t10, hA10⟩ := trodAll_cons hA9
  obtain ⟨hargs, rfl, rfl⟩ := trodAll_nil hA10
  obtain rfl : args = #[v0, v1, v2, v3, v4, v5, v6, v7, v8, v9, v10] := by cases args; simp_all
  obtain ⟨rfl, rfl⟩ := trodVars_none hV
  have hz0 : (DataW.weightsEach Tryd.prog [31, 31, 3, 3, 3, 3, 2, 3, 3, 2, 3] [d0, d1, d2, d3, d4, d5, d6, d7, d8, d9, d10]).all (· ≤ reachBytes) = true := by rw [Tryd.params6] at hz; exact hz
  obtain ⟨w0, hz1⟩ := weights_cons hz0
  obtain ⟨w1, hz2⟩ := weights_cons hz1
  obtain ⟨w2, hz3⟩ := weights_cons hz2
  obtain ⟨w3, hz4⟩ := weights_cons hz3
  obtain ⟨w4, hz5⟩ := weights_cons hz4
  obtain ⟨w5, hz6⟩ := weights_cons hz5
  obtain ⟨w6, hz7⟩ := weights_cons hz6
  obtain ⟨w7, hz8⟩ := weights_cons hz7
  obtain ⟨w8, hz9⟩ := weights_cons hz8
  obtain ⟨w9, hz10⟩ := weights_cons hz9
  obtain ⟨w10, hz11⟩ := weights_cons hz10
  obtain ⟨x0, ok0, r0⟩ := arg_one (T := fun l => tIs l) (ok := fun l => lenOk 8 l ∧ ∀ x, x ∈ l → I64 x) (reads_slice (sz := 1) (bytes := 8) (f := lI) Tryd.underlying31 (by kernel_rfl) (by kernel_rfl) (fun _ => rfl) (reads_int Tryd.underlying3)) (by obtain ⟨z1, z2, z3, hz⟩ := okWide_slice Tryd.underlying31 (hval 0 _ v0 (by rw [Tryd.params6]; rfl) rfl); rw [hz]; rfl) t0 w0
  obtain ⟨x1, ok1, r1⟩ := arg_one (T := fun l => tIs l) (ok := fun l => lenOk 8 l ∧ ∀ x, x ∈ l → I64 x) (reads_slice (sz := 1) (bytes := 8) (f := lI) Tryd.underlying31 (by kernel_rfl) (by kernel_rfl) (fun _ => rfl) (reads_int Tryd.underlying3)) (by obtain ⟨z1, z2, z3, hz⟩ := okWide_slice Tryd.underlying31 (hval 1 _ v1 (by rw [Tryd.params6]; rfl) rfl); rw [hz]; rfl) t1 w1
  obtain ⟨x2, ok2, r2⟩ := arg_one (reads_int Tryd.underlying3) (by obtain ⟨z, hz⟩ := okWide_int Tryd.underlying3 (hval 2 _ v2 (by rw [Tryd.params6]; rfl) rfl); rw [hz]; rfl) t2 w2
  obtain ⟨x3, ok3, r3⟩ := arg_one (reads_int Tryd.underlying3) (by obtain ⟨z, hz⟩ := okWide_int Tryd.underlying3 (hval 3 _ v3 (by rw [Tryd.params6]; rfl) rfl); rw [hz]; rfl) t3 w3
  obtain ⟨x4, ok4, r4⟩ := arg_one (reads_int Tryd.underlying3) (by obtain ⟨z, hz⟩ := okWide_int Tryd.underlying3 (hval 4 _ v4 (by rw [Tryd.params6]; rfl) rfl); rw [hz]; rfl) t4 w4
  obtain ⟨x5, ok5, r5⟩ := arg_one (reads_int Tryd.underlying3) (by obtain ⟨z, hz⟩ := okWide_int Tryd.underlying3 (hval 5 _ v5 (by rw [Tryd.params6]; rfl) rfl); rw [hz]; rfl) t5 w5
  obtain ⟨x6, ok6, r6⟩ := arg_one (reads_int Tryd.underlying2) (by obtain ⟨z, hz⟩ := okWide_int Tryd.underlying2 (hval 6 _ v6 (by rw [Tryd.params6]; rfl) rfl); rw [hz]; rfl) t6 w6
  obtain ⟨x7, ok7, r7⟩ := arg_one (reads_int Tryd.underlying3) (by obtain ⟨z, hz⟩ := okWide_int Tryd.underlying3 (hval 7 _ v7 (by rw [Tryd.params6]; rfl) rfl); rw [hz]; rfl) t7 w7
  obtain ⟨x8, ok8, r8⟩ := arg_one (reads_int Tryd.underlying3) (by obtain ⟨z, hz⟩ := okWide_int Tryd.underlying3 (hval 8 _ v8 (by rw [Tryd.params6]; rfl) rfl); rw [hz]; rfl) t8 w8
  obtain ⟨x9, ok9, r9⟩ := arg_one (reads_int Tryd.underlying2) (by obtain ⟨z, hz⟩ := okWide_int Tryd.underlying2 (hval 9 _ v9 (by rw [Tryd.params6]; rfl) rfl); rw [hz]; rfl) t9 w9
  obtain ⟨x10, ok10, r10⟩ := arg_one (reads_int Tryd.underlying3) (by obtain ⟨z, hz⟩ := okWide_int Tryd.underlying3 (hval 10 _ v10 (by rw [Tryd.params6]; rfl) rfl); rw [hz]; rfl) t10 w10
  obtain ⟨K, hF⟩ := pure6 x0 x1 x2 x3 x4 x5 x6 x7 x8 x9 x10 ok0 ok1 ok2 ok3 ok4 ok5 ok6 ok7 ok8 ok9 ok10
  refine (c_law33_LivenessDead K x0 x1 x2 x3 x4 x5 x6 x7 x8 x9 x10 true hF [] W #[v0, v1, v2, v3, v4, v5, v6, v7, v8, v9, v10] (table_holds hL) ⟨rfl, fun j T hT => ?_⟩).mono ?_
  · match j with
    | 0 => cases hT; exact ⟨_, rfl, r0⟩
    | 1 => cases hT; exact ⟨_, rfl, r1⟩
    | 2 => cases hT; exact ⟨_, rfl, r2⟩
    | 3 => cases hT; exact ⟨_, rfl, r3⟩
    | 4 => cases hT; exact ⟨_, rfl, r4⟩
    | 5 => cases hT; exact ⟨_, rfl, r5⟩
    | 6 => cases hT; exact ⟨_, rfl, r6⟩
    | 7 => cases hT; exact ⟨_, rfl, r7⟩
    | 8 => cases hT; exact ⟨_, rfl, r8⟩
    | 9 => cases hT; exact ⟨_, rfl, r9⟩
    | 10 => cases hT; exact ⟨_, rfl, r10⟩
    | j + 11 => simp at hT
  · rintro e W' ⟨v, _, rfl, _, hle, hv⟩
    have hv' : v = .bool true := hv
    subst hv'
    have hlt := fun (p : MemPlace) hp => hW'.lt p hp
    exact ⟨_, rfl, post_kept (pv := []) hW' (fun _ _ _ => trodAll_cons_mk (shut_bool Tryd.underlying4 _) trodAll_mk0) (fun sp hs => (trodAll_cons_mk (arg_stays (by kernel_rfl) (of_decide_eq_true (by kernel_rfl)) hle t0 sp (fun p hp => hs p (by simp [hp])) (fun p hp => hlt p (by simp [hp]))) (trodAll_cons_mk (arg_stays (by kernel_rfl) (of_decide_eq_true (by kernel_rfl)) hle t1 sp (fun p hp => hs p (by simp [hp])) (fun p hp => hlt p (by simp [hp]))) (trodAll_cons_mk (arg_stays (by kernel_rfl) (of_decide_eq_true (by kernel_rfl)) hle t2 sp (fun p hp => hs p (by simp [hp])) (fun p hp => hlt p (by simp [hp]))) (trodAll_cons_mk (arg_stays (by kernel_rfl) (of_decide_eq_true (by kernel_rfl)) hle t3 sp (fun p hp => hs p (by simp [hp])) (fun p hp => hlt p (by simp [hp]))) (trodAll_cons_mk (arg_stays (by kernel_rfl) (of_decide_eq_true (by kernel_rfl)) hle t4 sp (fun p hp => hs p (by simp [hp])) (fun p hp => hlt p (by simp [hp]))) (trodAll_cons_mk (arg_stays (by kernel_rfl) (of_decide_eq_true (by kernel_rfl)) hle t5 sp (fun p hp => hs p (by simp [hp])) (fun p hp => hlt p (by simp [hp]))) (trodAll_cons_mk (arg_stays (by kernel_rfl) (of_decide_eq_true (by kernel_rfl)) hle t6 sp (fun p hp => hs p (by simp [hp])) (fun p hp => hlt p (by simp [hp]))) (trodAll_cons_mk (arg_stays (by kernel_rfl) (of_decide_eq_true (by kernel_rfl)) hle t7 sp (fun p hp => hs p (by simp [hp])) (fun p hp => hlt p (by simp [hp]))) (trodAll_cons_mk (arg_stays (by kernel_rfl) (of_decide_eq_true (by kernel_rfl)) hle t8 sp (fun p hp => hs p (by simp [hp])) (fun p hp => hlt p (by simp [hp]))) (trodAll_cons_mk (arg_stays (by kernel_rfl) (of_decide_eq_true (by kernel_rfl)) hle t9 sp (fun p hp => hs p (by simp [hp])) (fun p hp => hlt p (by simp [hp]))) (trodAll_cons_mk (arg_stays (by kernel_rfl) (of_decide_eq_true (by kernel_rfl)) hle t10 sp (fun p hp => hs p (by simp [hp])) (fun p hp => hlt p (by simp [hp]))) trodAll_mk0)))))))))))) (fun _ _ => rfl) (by simp) hle (ok_one (by kernel_rfl) rfl (okWide_bool_mk Tryd.underlying4 _))⟩

theorem reads (os : Os) {H : Type} (enc : TypeId × Value → H) : ∃ places, DataW.whole enc Tryd.prog ((tabWorld os).forCall (fun _ _ => 0) ⟨#[], #[.slice none 0 0, .slice none 0 0, .int .i64 0, .int .i64 0, .int .i64 0, .int .i64 0, .int .i64 0, .int .i64 0, .int .i64 0, .int .i64 0, .int .i64 0], []⟩).memory Tryd.f6.params.toList Rows.livenessDeadSpec.vars false (#[.slice none 0 0, .slice none 0 0, .int .i64 0, .int .i64 0, .int .i64 0, .int .i64 0, .int .i64 0, .int .i64 0, .int .i64 0, .int .i64 0, .int .i64 0] : Array Value).toList 8 = some ([.nil, .nil, .lit (.int .i64 0), .lit (.int .i64 0), .lit (.int .i64 0), .lit (.int .i64 0), .lit (.int .i64 0), .lit (.int .i64 0), .lit (.int .i64 0), .lit (.int .i64 0), .lit (.int .i64 0)], [], places) :=
  ⟨[], by kernel_rfl⟩
theorem lifted (os : Os) (started : os.Started) (H : Type) (enc : TypeId × Value → H) (F : Stop.Interp) :
    ReturnsInHanded {} Tryd.checked os 6 .any ((OpenSpec.ofChange Rows.livenessDeadSpec).preRow enc Tryd.prog Tryd.f6 Rows.livenessDeadRow.domain false Rows.livenessDeadRow.laid) (((OpenSpec.ofChange Rows.livenessDeadSpec).at F).post enc Tryd.prog Tryd.f6 false true false false) := by
  obtain ⟨places, hx⟩ := reads os enc
  refine returnsInHanded_of_row (C := Tryd.checked) (s := OpenSpec.ofChange Rows.livenessDeadSpec) ownK started (by kernel_rfl) Tryd.func6
    (witness_row_atRef (enc := enc) (C := Tryd.checked) false (tabWorld os) #[.slice none 0 0, .slice none 0 0, .int .i64 0, .int .i64 0, .int .i64 0, .int .i64 0, .int .i64 0, .int .i64 0, .int .i64 0, .int .i64 0, .int .i64 0] rfl (by kernel_rfl) (by kernel_rfl) (by kernel_rfl)
      (OpenSpec.preRow_of_cond 8 hx (by kernel_rfl) (fun k hk => by cases hk) (by kernel_rfl) (tab_met os #[.slice none 0 0, .slice none 0 0, .int .i64 0, .int .i64 0, .int .i64 0, .int .i64 0, .int .i64 0, .int .i64 0, .int .i64 0, .int .i64 0, .int .i64 0]))) ?_
  intro W base args ds gs before hval hW _ _ hz hL _ _
  exact contract H enc W base args ds gs before hval hW hz hL
theorem closed : joinedFacts Tryd.pinned.checked.prog 6 Tryd.f6 (OpenSpec.ofChange Rows.livenessDeadSpec).bare Rows.livenessDeadRow = true :=
  Closed.closed_of (by kernel_rfl) (by kernel_rfl) (by kernel_rfl) (by kernel_rfl) (by kernel_rfl) (by kernel_rfl) (by kernel_rfl) (by kernel_rfl) (by kernel_rfl) (by kernel_rfl) (by kernel_rfl) (by kernel_rfl) (by kernel_rfl) (by kernel_rfl) (by kernel_rfl) (by kernel_rfl) (by kernel_rfl) (by kernel_rfl) rfl (by kernel_rfl) rfl rfl (by kernel_rfl) (by kernel_rfl) (by kernel_rfl) (by kernel_rfl)
theorem wr : Tryd.f6.isWrapper Tryd.pinned.checked.prog Rows.livenessDeadRow.wrapper Rows.livenessDeadRow.mainSum := by
  unfold Func.isWrapper
  rw [if_neg (by decide +kernel)]
  exact ⟨rfl, rfl⟩
theorem said : Rows.LivenessDeadSaid :=
  OpenClaim.holds_of_cond 6 Tryd.f6 rfl rfl rfl rfl rfl rfl rfl ⟨rfl, rfl, rfl, rfl, rfl⟩ rfl rfl rfl rfl rfl (by kernel_rfl) Tryd.func6 closed
    (of_decide_eq_true (by kernel_rfl)) wr
    (fun os started H enc _ F => by rw [OpenClaim.pre_eq_preRow]; exact lifted os started H enc F)
theorem plain (f : FuncId) (fn : Func) (hf : Tryd.pinned.checked.prog.funcNamed "fulling/fullinglaw33.LivenessDead" = some f) (hfn : Tryd.pinned.checked.prog.funcs[f]? = some fn) :
    false = Tryd.pinned.checked.prog.looks [] ∧ ∀ (j : Nat) t, fn.params[j]? = some t → Tryd.pinned.checked.prog.wantsStandIn t = false := by
  obtain rfl : f = 6 := Option.some.inj ((show Tryd.prog.funcNamed "fulling/fullinglaw33.LivenessDead" = some 6 by kernel_rfl).symm.trans hf) |>.symm
  obtain rfl : fn = Tryd.f6 := (Option.some.inj (Tryd.func6.symm.trans hfn)).symm
  refine ⟨by kernel_rfl, fun j t ht => ?_⟩
  rw [Tryd.params6] at ht
  match j with
  | 0 => obtain rfl : 31 = t := Option.some.inj ht; change Tryd.prog.wantsStandIn 31 = false; kernel_rfl
  | 1 => obtain rfl : 31 = t := Option.some.inj ht; change Tryd.prog.wantsStandIn 31 = false; kernel_rfl
  | 2 => obtain rfl : 3 = t := Option.some.inj ht; change Tryd.prog.wantsStandIn 3 = false; kernel_rfl
  | 3 => obtain rfl : 3 = t := Option.some.inj ht; change Tryd.prog.wantsStandIn 3 = false; kernel_rfl
  | 4 => obtain rfl : 3 = t := Option.some.inj ht; change Tryd.prog.wantsStandIn 3 = false; kernel_rfl
  | 5 => obtain rfl : 3 = t := Option.some.inj ht; change Tryd.prog.wantsStandIn 3 = false; kernel_rfl
  | 6 => obtain rfl : 2 = t := Option.some.inj ht; change Tryd.prog.wantsStandIn 2 = false; kernel_rfl
  | 7 => obtain rfl : 3 = t := Option.some.inj ht; change Tryd.prog.wantsStandIn 3 = false; kernel_rfl
  | 8 => obtain rfl : 3 = t := Option.some.inj ht; change Tryd.prog.wantsStandIn 3 = false; kernel_rfl
  | 9 => obtain rfl : 2 = t := Option.some.inj ht; change Tryd.prog.wantsStandIn 2 = false; kernel_rfl
  | 10 => obtain rfl : 3 = t := Option.some.inj ht; change Tryd.prog.wantsStandIn 3 = false; kernel_rfl
  | j + 11 => simp at ht
theorem card : Rows.LivenessDeadCardSaid :=
  Claim7.holds_tied_plain_at .later [] _ _ _ _ said (fun _ h => by cases h) (by kernel_rfl) (fun _ h => by cases h) livenessDead_row_tie rfl ⟨rfl, rfl⟩ (Closed.main_of _ rfl (by kernel_rfl)) rfl plain (by kernel_rfl)
#print axioms card
end Go.Proofs.YtocfnpnnbmicmaaDoor.LivenessDead
